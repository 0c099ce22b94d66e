/- Ev4: each compact operation is the model's. Part two: addresses, reads, structs. -/
import Derived.Test.YtefbpobeclkbhaaEv3
namespace Go.Ev
variable {P : Program} {ρ : Ren} {h : H} {a : Act} {w : World} {s : Env} {n : Nat}

/-! ### structs by value -/
def isRowB (P : Program) (t : TypeId) : Option Bool :=
  match P.underlying t with
  | some (.struct _) | some (.array _ _) => some true
  | some _ => some false
  | none => none

def szOf (P : Program) (t : TypeId) : Option Nat := (P.info? t).map (·.size)

theorem run_isAgg {t : TypeId} {b : Bool} (e : isRowB P t = some b) : (isAgg t).run P w = .ok b w := by
  unfold isRowB at e
  cases hu : P.underlying t with
  | none => rw [hu] at e; cases e
  | some d =>
    rw [hu] at e
    cases d <;> simp at e <;> subst e <;> simp [isAgg, run_underlying hu]

theorem run_sizeOf' {t : TypeId} {m : Nat} (e : szOf P t = some m) : (sizeOf t).run P w = .ok m w := by
  unfold szOf at e
  cases hi : P.info? t with
  | none => rw [hi] at e; cases e
  | some i => rw [hi] at e; cases e; simp [sizeOf, typeInfo, hi]

theorem run_part_row {t : TypeId} (hb : isRowB P t = some true) {m : Nat} (hm : szOf P t = some m) (cs : List Value) (off : Nat) :
    (part t ⟨cs⟩ off).run P w = .ok (.agg ⟨(cs.drop off).take m⟩) w := by
  simp only [part, Sem.run_bind, run_isAgg hb, Result.andThen_ok, if_true, run_sizeOf' hm, Sem.run_pure]
  simp [List.take_drop, Nat.add_comm]

theorem run_part_cell {t : TypeId} (hb : isRowB P t = some false) (cs : List Value) (off : Nat) {v : Value} (hv : cs[off]? = some v) :
    (part t ⟨cs⟩ off).run P w = .ok v w := by
  simp only [part, Sem.run_bind, run_isAgg hb, Result.andThen_ok]
  simp [hv]

def flatFs (fk : TypeId → Option (List CK)) : List Field → Nat → Option (List CK)
  | [], _ => some []
  | f :: r, off =>
    if f.name ≠ "_" ∧ f.offset = off then
      match fk f.type with
      | some ks => match flatFs fk r (off + ks.length) with
        | some l => some (ks ++ l)
        | none => none
      | none => none
    else none

/-- The cells of a type that may be compared cell by cell. -/
def flatK (P : Program) : Nat → TypeId → Option (List CK)
  | 0, _ => none
  | n + 1, t =>
    match P.underlying t with
    | some (.int _) => some [.int]
    | some .string => some [.str]
    | some .bool => some [.bool]
    | some (.struct fs) => if P.stoodInHeld t then none else match flatFs (flatK P n) fs.toList 0 with
      | some l => if szOf P t = some l.length then some l else none
      | none => none
    | _ => none

theorem cellsEq_app : ∀ {ks : List CK} {l : List CK} {xs ys : List Value} {r : Bool}, cellsEq (ks ++ l) xs ys = some r →
    ∃ r1 r2, cellsEq ks (xs.take ks.length) (ys.take ks.length) = some r1 ∧ cellsEq l (xs.drop ks.length) (ys.drop ks.length) = some r2 ∧ r = (r1 && r2)
  | [], l, xs, ys, r, e => ⟨true, r, by simp [cellsEq], by simpa using e, by simp⟩
  | k :: ks, l, [], ys, r, e => by simp [cellsEq] at e
  | k :: ks, l, x :: xs, [], r, e => by simp [cellsEq] at e
  | k :: ks, l, x :: xs, y :: ys, r, e => by
    simp only [List.cons_append, cellsEq] at e
    cases h1 : cellEq k x y with
    | none => rw [h1] at e; simp at e
    | some r0 =>
      cases h2 : cellsEq (ks ++ l) xs ys with
      | none => rw [h1, h2] at e; simp at e
      | some q =>
        rw [h1, h2] at e
        obtain ⟨r1, r2, g1, g2, g3⟩ := cellsEq_app h2
        refine ⟨r0 && r1, r2, by simp [cellsEq, h1, g1], by simpa using g2, ?_⟩
        subst g3
        simp at e; subst e
        simp [Bool.and_assoc]

theorem cellsEq_len : ∀ {ks : List CK} {xs ys : List Value} {r : Bool}, cellsEq ks xs ys = some r → xs.length = ks.length ∧ ys.length = ks.length
  | [], [], [], _, _ => ⟨rfl, rfl⟩
  | [], _ :: _, _, _, e => by simp [cellsEq] at e
  | [], [], _ :: _, _, e => by simp [cellsEq] at e
  | _ :: _, [], _, _, e => by simp [cellsEq] at e
  | _ :: _, _ :: _, [], _, e => by simp [cellsEq] at e
  | k :: ks, x :: xs, y :: ys, r, e => by
    simp only [cellsEq] at e
    cases h1 : cellEq k x y with
    | none => rw [h1] at e; simp at e
    | some r0 =>
      cases h2 : cellsEq ks xs ys with
      | none => rw [h1, h2] at e; simp at e
      | some q => have := cellsEq_len h2; simp [this]

theorem single {xs : List Value} (h : xs.length = 1) : ∃ x, xs = [x] := by
  match xs, h with
  | [x], _ => exact ⟨x, rfl⟩

/-- What '==' answers of two values of a type, by their cells. -/
theorem flat_run : ∀ (m : Nat) (t : TypeId) (ks : List CK), flatK P m t = some ks → ∀ (xs ys : List Value) (r : Bool), cellsEq ks xs ys = some r → ∀ d, m ≤ d →
    szOf P t = szOf P t ∧ ((isRowB P t = some true ∧ szOf P t = some ks.length ∧ (Op.equalIn (d + 1) t (.agg ⟨xs⟩) (.agg ⟨ys⟩)).run P w = .ok r w) ∨
      (isRowB P t = some false ∧ ks.length = 1 ∧ ∃ x y, xs = [x] ∧ ys = [y] ∧ (Op.equalIn (d + 1) t x y).run P w = .ok r w))
  | 0, t, ks, hk => by simp [flatK] at hk
  | m + 1, t, ks, hk => by
    intro xs ys r e d hd
    refine ⟨rfl, ?_⟩
    unfold flatK at hk
    cases hu : P.underlying t with
    | none => rw [hu] at hk; simp at hk
    | some dd =>
      rw [hu] at hk
      obtain ⟨l1, l2⟩ := cellsEq_len e
      cases dd <;> simp at hk
      case bool =>
        subst hk
        obtain ⟨x, rfl⟩ := single l1
        obtain ⟨y, rfl⟩ := single l2
        refine .inr ⟨by simp [isRowB, hu], rfl, x, y, rfl, rfl, ?_⟩
        cases x <;> cases y <;> simp [cellsEq, cellEq] at e
        subst e; simp [Op.equalIn, run_underlying hu]
      case int =>
        subst hk
        obtain ⟨x, rfl⟩ := single l1
        obtain ⟨y, rfl⟩ := single l2
        refine .inr ⟨by simp [isRowB, hu], rfl, x, y, rfl, rfl, ?_⟩
        cases x <;> cases y <;> simp [cellsEq, cellEq] at e
        rename_i k1 n1 k2 n2
        by_cases hkk : k1 = k2
        · subst hkk; simp at e; subst e; simp [Op.equalIn, run_underlying hu]
        · simp [hkk] at e
      case string =>
        subst hk
        obtain ⟨x, rfl⟩ := single l1
        obtain ⟨y, rfl⟩ := single l2
        refine .inr ⟨by simp [isRowB, hu], rfl, x, y, rfl, rfl, ?_⟩
        cases x <;> cases y <;> simp [cellsEq, cellEq] at e
        subst e; simp [Op.equalIn, run_underlying hu, beq_toListBytes]
      case struct fs =>
        obtain ⟨hst, hk⟩ := hk
        cases hf : flatFs (flatK P m) fs.toList 0 with
        | none => rw [hf] at hk; simp at hk
        | some l =>
          rw [hf] at hk; simp at hk
          obtain ⟨hsz, rfl⟩ := hk
          refine .inl ⟨by simp [isRowB, hu], hsz, ?_⟩
          obtain ⟨d, rfl⟩ : ∃ q, d = q + 1 := ⟨d - 1, by omega⟩
          have hfo : P.fieldsOf t = fs := by simp [Program.fieldsOf, hu]
          rw [run_equalIn_struct w (d + 1) t ⟨xs⟩ ⟨ys⟩ (by rw [hfo]; exact hu) hst, hfo]
          -- the fields, from an offset on
          have key : ∀ (fl : List Field) (off : Nat) (l : List CK) (r : Bool), flatFs (flatK P m) fl off = some l → cellsEq l (xs.drop off) (ys.drop off) = some r →
              (Op.eqFields (d + 1) ⟨xs⟩ ⟨ys⟩ fl).run P w = .ok r w := by
            intro fl
            induction fl with
            | nil =>
              intro off l r e1 e2
              simp [flatFs] at e1; subst e1
              cases hx : xs.drop off <;> cases hy : ys.drop off <;> rw [hx, hy] at e2 <;> simp [cellsEq] at e2
              subst e2; simp [Op.eqFields]
            | cons f fl ih =>
              intro off l r e1 e2
              unfold flatFs at e1
              split at e1
              · rename_i hn
                obtain ⟨hn, hoff⟩ := hn
                cases hk1 : flatK P m f.type with
                | none => rw [hk1] at e1; simp at e1
                | some ks1 =>
                  rw [hk1] at e1; simp only at e1
                  cases hk2 : flatFs (flatK P m) fl (off + ks1.length) with
                  | none => rw [hk2] at e1; simp at e1
                  | some l2 =>
                    rw [hk2] at e1; simp at e1; subst e1
                    obtain ⟨r1, r2, g1, g2, rfl⟩ := cellsEq_app e2
                    rw [List.drop_drop, List.drop_drop] at g2
                    have ih' := ih (off + ks1.length) l2 r2 hk2 g2
                    obtain ⟨_, hfield⟩ := flat_run m f.type ks1 hk1 _ _ r1 g1 d (by omega)
                    rw [Op.eqFields, if_pos hn]
                    rcases hfield with ⟨b1, b2, b3⟩ | ⟨b1, b2, x, y, b3, b4, b5⟩
                    · simp only [Sem.run_bind, hoff, run_part_row b1 b2, Result.andThen_ok, b3]
                      cases r1
                      · simp
                      · simpa using ih'
                    · have hx : xs[off]? = some x := by
                        have := congrArg (·[0]?) b3
                        simpa [b2] using this
                      have hy : ys[off]? = some y := by
                        have := congrArg (·[0]?) b4
                        simpa [b2] using this
                      simp only [Sem.run_bind, hoff, run_part_cell b1 _ _ hx, run_part_cell b1 _ _ hy, Result.andThen_ok, b5]
                      cases r1
                      · simp
                      · simpa using ih'
              · cases e1
          exact key fs.toList 0 l r hf (by simpa using e)

theorem cellsEq_VRs : ∀ {ks : List CK} {xs ys xs' ys' : List Value} {r : Bool}, cellsEq ks xs ys = some r → VRs ρ xs xs' → VRs ρ ys ys' → cellsEq ks xs' ys' = some r
  | [], [], [], _, _, _, e, .nil, .nil => e
  | [], _ :: _, _, _, _, _, e, _, _ => by simp [cellsEq] at e
  | [], [], _ :: _, _, _, _, e, _, _ => by simp [cellsEq] at e
  | _ :: _, [], _, _, _, _, e, _, _ => by simp [cellsEq] at e
  | _ :: _, _ :: _, [], _, _, _, e, _, _ => by simp [cellsEq] at e
  | k :: ks, x :: xs, y :: ys, _, _, r, e, .cons hx tx, .cons hy ty => by
    simp only [cellsEq] at e ⊢
    cases h1 : cellEq k x y with
    | none => rw [h1] at e; simp at e
    | some r0 =>
      cases h2 : cellsEq ks xs ys with
      | none => rw [h1, h2] at e; simp at e
      | some q =>
        rw [h1, h2] at e
        have h3 := cellsEq_VRs h2 tx ty
        have h4 : ∀ {x' y'}, VR ρ x x' → VR ρ y y' → cellEq k x' y' = some r0 := by
          intro x' y' hx hy
          unfold cellEq at h1
          split at h1 <;> cases hx <;> cases hy <;> simp_all [cellEq]
        rw [h4 hx hy, h3]; exact e

theorem good_eqAgg (o : Oper) (neg : Bool) (t ty : TypeId) (x y : Operand) (ho : o.op = .binOp (if neg then .neq else .eql) t x y ty) {ks : List CK} (hk : flatK P 20 t = some ks) (hg : P.eqGuardType P.depth t = false) (r : Rel ρ h w) (he : EnvRel ρ n s a.tmps)
    {u v : List Value} (hu : aeval s x = .agg ⟨u⟩) (hv : aeval s y = .agg ⟨v⟩) {q : Bool} (e : cellsEq ks u v = some q) (hrow : isRowB P t = some true) : Good P o ρ h a w (.bool (if neg then !q else q)) h := by
  have h1 := aeval_sound he x
  have h2 := aeval_sound he y
  rw [hu] at h1; rw [hv] at h2
  obtain ⟨u', e1, g1⟩ := h1.agg_inv
  obtain ⟨v', e2, g2⟩ := h2.agg_inv
  have e' := cellsEq_VRs e g1 g2
  have heq : (Op.equal t (.agg ⟨u'⟩) (.agg ⟨v'⟩)).run P w = .ok q w := by
    show (Op.equalIn (9999 + 1) t _ _).run P w = .ok q w
    obtain ⟨_, hh⟩ := flat_run (w := w) 20 t ks hk u' v' q e' 9999 (by omega)
    rcases hh with ⟨_, _, h3⟩ | ⟨h3, _⟩
    · exact h3
    · rw [hrow] at h3; cases h3
  have hguard : ∀ op, (eqGuard op t x y (.agg ⟨u'⟩) (.agg ⟨v'⟩)).run P w = .ok () w := by
    intro op
    by_cases hop : op = .eql ∨ op = .neq
    · rcases hop with rfl | rfl <;> simp [eqGuard, hg]
    · cases op <;> simp at hop <;> simp [eqGuard]
  refine .same r (.bool _) ?_
  cases neg
  · simp [execOp, ho, e1, e2, hguard, binOp, heq]
  · simp [execOp, ho, e1, e2, hguard, binOp, heq]

end Go.Ev
