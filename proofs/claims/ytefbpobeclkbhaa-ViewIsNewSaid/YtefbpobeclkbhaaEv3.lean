/- Ev3: each compact operation is the model's. Part one: what neither makes nor writes memory. -/
import Derived.Test.YtefbpobeclkbhaaEv2
import Derived.Laws.Rows
import Derived.Laws.Entries
namespace Go.Ev

/-- What an operation does: a value, or nothing to be told. -/
def Does (P : Program) (o : Oper) (a : Act) (w : World) (v : Value) (w' : World) : Prop :=
  (execOp a.eval o).run P w = .ok (.value v) w' ∨ ((execOp a.eval o).run P w = .ok .skip w' ∧ v = undef)

/-- An operation's answer on the abstract heap holds in the world. -/
def Good (P : Program) (o : Oper) (ρ : Ren) (h : H) (a : Act) (w : World) (v : Value) (h' : H) : Prop :=
  ∃ v' ρ' w', Does P o a w v' w' ∧ VR ρ' v v' ∧ Rel ρ' h' w' ∧ Ext ρ h w ρ' h' w'

theorem Good.same {P : Program} {o : Oper} {ρ : Ren} {h : H} {a : Act} {w : World} {v v' : Value} (r : Rel ρ h w) (hv : VR ρ v v') (e : (execOp a.eval o).run P w = .ok (.value v') w) : Good P o ρ h a w v h :=
  ⟨v', ρ, w, .inl e, hv, r, .refl _ _ _⟩

variable {P : Program} {ρ : Ren} {h : H} {a : Act} {w : World} {s : Env} {n : Nat}

theorem VR.bool_inv {v' : Value} {b : Bool} (h : VR ρ (.bool b) v') : v' = .bool b := by cases h; rfl
theorem VR.int_inv {v' : Value} {k : IntKind} {m : Int} (h : VR ρ (.int k m) v') : v' = .int k m := by cases h; rfl
theorem VR.string_inv {v' : Value} {t : ByteArray} (h : VR ρ (.string t) v') : v' = .string t := by cases h; rfl
theorem VR.ptr_inv {v' : Value} {b o : Nat} (h : VR ρ (.pointer (some ⟨b, o, none⟩)) v') : ∃ i, ρ b = some i ∧ v' = .pointer (some ⟨i.blk, o + i.sh, none⟩) := by
  cases h; exact ⟨_, by assumption, rfl⟩
theorem VR.agg_inv {v' : Value} {l : List Value} (h : VR ρ (.agg ⟨l⟩) v') : ∃ l', v' = .agg ⟨l'⟩ ∧ VRs ρ l l' := by
  cases h; exact ⟨_, rfl, by assumption⟩
theorem VR.tuple_inv {v' : Value} {l : List Value} (h : VR ρ (.tuple ⟨l⟩) v') : ∃ l', v' = .tuple ⟨l'⟩ ∧ VRs ρ l l' := by
  cases h; exact ⟨_, rfl, by assumption⟩
theorem VR.slice_inv {v' : Value} {b o n c : Nat} (h : VR ρ (.slice (some ⟨b, o, none⟩) n c) v') :
    ∃ i o' c', ρ b = some i ∧ v' = .slice (some ⟨i.blk, o', none⟩) n c' ∧ n ≤ c ∧ c ≤ c' ∧ (c' - c) * i.es ≤ i.room ∧ (o' = o + i.sh ∨ c' = 0) := by
  cases h; exact ⟨_, _, _, by assumption, rfl, by assumption, by assumption, by assumption, by assumption⟩
theorem VR.snil_inv {v' : Value} {n c : Nat} (h : VR ρ (.slice none n c) v') : n = 0 ∧ c = 0 ∧ v' = .slice none 0 0 := by
  cases h; exact ⟨rfl, rfl, rfl⟩
theorem VR.map_inv {v' : Value} {b : Nat} (h : VR ρ (.map (some b)) v') : ∃ i, ρ b = some i ∧ v' = .map (some i.blk) := by
  cases h; exact ⟨_, by assumption, rfl⟩
theorem VR.mnil_inv {v' : Value} (h : VR ρ (.map none) v') : v' = .map none := by cases h; rfl

/-! ### moves -/
theorem good_move (o : Oper) (x : Operand) (ho : o.op = .move x ∨ o.op = .assign x) (r : Rel ρ h w) (he : EnvRel ρ n s a.tmps) : Good P o ρ h a w (aeval s x) h := by
  refine .same r (aeval_sound he x) ?_
  rcases ho with e | e <;> simp [execOp, e]

theorem good_pick (o : Oper) (c x y : Operand) (ho : o.op = .pick c x y) (r : Rel ρ h w) (he : EnvRel ρ n s a.tmps) {t : Bool} (hc : aeval s c = .bool t) : Good P o ρ h a w (bif t then aeval s x else aeval s y) h := by
  have h1 := aeval_sound he c
  rw [hc] at h1
  have h2 := h1.bool_inv
  cases t
  · exact .same r (aeval_sound he y) (by simp [execOp, ho, h2, asBool])
  · exact .same r (aeval_sound he x) (by simp [execOp, ho, h2, asBool])

/-! ### numbers, texts -/
theorem run_intBin (op : BinOp) (t : TypeId) (k : IntKind) (x y : Int) {v : Value} (hop : op ≠ .shl ∧ op ≠ .shr) (e : intBin op k x y = some v) : (binOp op t (.int k x) (.int k y)).run P w = .ok v w := by
  cases op <;> simp [intBin, binOp, Op.intArith, Op.intDiv, Op.intBits, Op.intCmp] at e hop ⊢ <;> first
    | exact e
    | (obtain ⟨h0, rfl⟩ := e; simp [h0])

theorem run_intShift (op : BinOp) (t : TypeId) (k yk : IntKind) (x y : Int) {v : Value} (hop : op = .shl ∨ op = .shr) (e : intShift op k x y = some v) : (binOp op t (.int k x) (.int yk y)).run P w = .ok v w := by
  rcases hop with rfl | rfl <;> simp [intShift, binOp, Op.shift] at e ⊢ <;>
    (obtain ⟨h0, rfl⟩ := e; simp [Int.not_lt.2 h0])

theorem run_strBin (op : BinOp) (t : TypeId) (x y : ByteArray) {v : Value} (e : strBin op x y = some v) : (binOp op t (.string x) (.string y)).run P w = .ok v w := by
  have hb := beq_toListBytes x y
  cases op <;> simp [strBin, binOp, Op.stringOp, hb, bne] at e ⊢ <;> first
    | exact e
    | (obtain ⟨h0, rfl⟩ := e
       simp [h0])

theorem run_intEq (d : Nat) (t : TypeId) (k : IntKind) (hu : P.underlying t = some (.int k)) (q : IntKind) (x y : Int) : (Op.equalIn (d + 1) t (.int q x) (.int q y)).run P w = .ok (x == y) w := by
  simp [Op.equalIn, run_underlying hu]

def EK.fits : EK → TypeDesc → Bool
  | .bool, .bool => true
  | .ptr, .pointer _ => true
  | .slice, .slice _ => true
  | .map, .map _ _ => true
  | .func, .func _ _ _ => true
  | _, _ => false

set_option maxHeartbeats 1000000 in
theorem run_nilEq (t : TypeId) {d : TypeDesc} (hu : P.underlying t = some d) {k : EK} (hk : k.fits d = true) {x y x' y' : Value} (hx : VR ρ x x') (hy : VR ρ y y') {r : Bool} (e : nilEq k x y = some r) :
    (Op.equal t x' y').run P w = .ok r w := by
  show (Op.equalIn (9999 + 1) t x' y').run P w = .ok r w
  generalize 9999 = dd
  unfold nilEq at e
  split at e <;> simp at e <;> subst e <;> cases d <;> simp [EK.fits] at hk <;> cases hx <;> cases hy <;> simp [Op.equalIn, run_underlying hu]

/-- Values to which the model's guard of '==' has nothing to say. -/
def plainEq : Value → Bool
  | .nilIface | .agg _ => false
  | _ => true

theorem run_eqGuard (op : BinOp) (t : TypeId) (x y : Operand) {u v : Value} (hu : plainEq u = true) : (eqGuard op t x y u v).run P w = .ok () w := by
  by_cases hop : op = .eql ∨ op = .neq
  · cases u <;> simp [plainEq] at hu <;> rcases hop with rfl | rfl <;> simp [eqGuard]
  · cases op <;> simp at hop <;> simp [eqGuard]

theorem good_bin (o : Oper) (op : BinOp) (t ty : TypeId) (x y : Operand) (ho : o.op = .binOp op t x y ty) (r : Rel ρ h w) (he : EnvRel ρ n s a.tmps) {v : Value} (e : aBin op (aeval s x) (aeval s y) = some v) : Good P o ρ h a w v h := by
  have h1 := aeval_sound he x
  have h2 := aeval_sound he y
  generalize aeval s x = u1 at *
  generalize aeval s y = u2 at *
  unfold aBin at e
  split at e
  · rename_i k i k' j
    have e1 := h1.int_inv
    have e2 := h2.int_inv
    have hres : ∀ {v}, (binOp op t (.int k i) (.int k' j)).run P w = .ok v w → (execOp a.eval o).run P w = .ok (.value v) w := by
      intro v hv
      simp [execOp, ho, e1, e2, run_eqGuard (P := P) (w := w) op t x y (u := .int k i) (v := .int k' j) rfl, hv]
    have hv : ∃ q z, v = .int q z ∨ ∃ b, v = .bool b := by
      split at e
      · simp [intShift] at e; exact ⟨_, _, .inl e.2.symm⟩
      · simp [intShift] at e; exact ⟨_, _, .inl e.2.symm⟩
      · split at e
        · cases op <;> simp [intBin] at e <;> first
            | exact ⟨k, 0, .inr ⟨_, e.symm⟩⟩
            | exact ⟨_, _, .inl e.symm⟩
            | exact ⟨_, _, .inl e.2.symm⟩
        · cases e
    have hvr : VR ρ v v := by
      obtain ⟨q, z, rfl | ⟨b, rfl⟩⟩ := hv
      · exact .int _ _
      · exact .bool _
    refine .same r hvr (hres ?_)
    split at e
    · exact run_intShift .shl t k k' i j (.inl rfl) e
    · exact run_intShift .shr t k k' i j (.inr rfl) e
    · rename_i n1 n2
      split at e
      · rename_i hk; subst hk
        exact run_intBin op t k i j ⟨n1, n2⟩ e
      · cases e
  · rename_i i j
    have e1 := h1.string_inv
    have e2 := h2.string_inv
    have hvr : VR ρ v v := by
      cases op <;> simp [strBin] at e <;> first
        | (subst e; exact .bool _)
        | (obtain ⟨_, rfl⟩ := e; exact .string _)
    refine .same r hvr ?_
    simp [execOp, ho, e1, e2, run_eqGuard (P := P) (w := w) op t x y (u := .string i) (v := .string j) rfl, run_strBin (P := P) (w := w) op t i j e]
  · cases e

theorem good_eqNil (o : Oper) (neg : Bool) (t ty : TypeId) (x y : Operand) (ho : o.op = .binOp (if neg then .neq else .eql) t x y ty) {d : TypeDesc} (hu : P.underlying t = some d) {k : EK} (hk : k.fits d = true) (r : Rel ρ h w) (he : EnvRel ρ n s a.tmps)
    {q : Bool} (e : nilEq k (aeval s x) (aeval s y) = some q) : Good P o ρ h a w (.bool (if neg then !q else q)) h := by
  have h1 := aeval_sound he x
  have h2 := aeval_sound he y
  have hr := run_nilEq (P := P) (w := w) t hu hk h1 h2 e
  refine .same r (.bool _) ?_
  have key : plainEq (a.eval x) = true ∧ ∀ op, op = .eql ∨ op = .neq → (binOp op t (a.eval x) (a.eval y)).run P w = .ok (.bool (if op = .neq then !q else q)) w := by
    generalize aeval s x = u1 at *
    generalize aeval s y = u2 at *
    generalize a.eval x = v1 at *
    generalize a.eval y = v2 at *
    unfold nilEq at e
    split at e <;> simp at e <;> cases h1 <;> cases h2 <;> refine ⟨rfl, fun op hop => ?_⟩ <;> rcases hop with rfl | rfl <;> simp_all [binOp]
  obtain ⟨g1, g2⟩ := key
  cases neg
  · have := g2 .eql (.inl rfl)
    simp at this
    simp [execOp, ho, run_eqGuard (P := P) (w := w) .eql t x y (v := a.eval y) g1, this]
  · have := g2 .neq (.inr rfl)
    simp at this
    simp [execOp, ho, run_eqGuard (P := P) (w := w) .neq t x y (v := a.eval y) g1, this]

end Go.Ev
