/- Ev14: code and calls: what the evaluator answers, the program does. -/
import Derived.Test.YtefbpobeclkbhaaEv13c
set_option linter.unusedSimpArgs false
set_option linter.unusedVariables false
namespace Go.Ev
variable {P : Program} {ρ : Ren} {h : H} {a : Act} {w : World} {s : Env} {n : Nat} {cf : CF}

/-- Deferred calls. -/
inductive DsRel (ρ : Ren) : Ds → List Deferred → Prop
  | nil : DsRel ρ [] []
  | cons {d : ADef} {cap' args' : List Value} {ds : Ds} {l : List Deferred} (h : VRs ρ d.args (args' ++ cap')) (t : DsRel ρ ds l) :
      DsRel ρ (d :: ds) ({ target := .fn (.func d.fn) ⟨cap'⟩, args := ⟨args'⟩ } :: l)

theorem DsRel.mono {ρ ρ' : Ren} (hle : ρ.le ρ') {ds : Ds} {l : List Deferred} (h : DsRel ρ ds l) : DsRel ρ' ds l := by
  induction h with
  | nil => exact .nil
  | cons h _ ih => exact .cons (h.mono hle) ih

/-- What a walk has come to, since (ρ0, h0, w0). -/
def At (n : Nat) (ρ0 : Ren) (h0 : H) (w0 : World) (k : K) (res : Value × H) (a : Act) (w : World) : Prop :=
  ∃ ρ s h ds, Rel ρ h w ∧ EnvRel ρ n s a.tmps ∧ DsRel ρ ds a.defers ∧ Ext ρ0 h0 w0 ρ h w ∧ k s h ds = some res

def QQ (n : Nat) (ρ0 : Ren) (h0 : H) (w0 : World) (kn : K) (ke : Nat → K) (kr : K) (res : Value × H) : Exit → Act → World → Prop
  | .normal, a, w => At n ρ0 h0 w0 kn res a w
  | .exit i, a, w => At n ρ0 h0 w0 (ke i) res a w
  | .ret, a, w => At n ρ0 h0 w0 kr res a w
  | _, _, _ => False

theorem At.from {ρ0 ρ1 : Ren} {h0 h1 : H} {w0 w1 : World} {k : K} {res : Value × H} (r0 : Rel ρ0 h0 w0) (x : Ext ρ0 h0 w0 ρ1 h1 w1) (h : At n ρ1 h1 w1 k res a w) : At n ρ0 h0 w0 k res a w := by
  obtain ⟨ρ, s, h, ds, r, he, hd, hx, e⟩ := h
  exact ⟨ρ, s, h, ds, r, he, hd, Ext.trans r0 x hx, e⟩

theorem QQ.from {ρ0 ρ1 : Ren} {h0 h1 : H} {w0 w1 : World} {kn : K} {ke : Nat → K} {kr : K} {res : Value × H} (r0 : Rel ρ0 h0 w0) (x : Ext ρ0 h0 w0 ρ1 h1 w1) {e : Exit} (h : QQ n ρ1 h1 w1 kn ke kr res e a w) : QQ n ρ0 h0 w0 kn ke kr res e a w := by
  cases e <;> first
    | exact At.from r0 x h
    | exact h

/-- The code, with what is still looked at behind each region and loop. -/
def compC (P : Program) (n : Nat) : Code → List (List Nat) → Option (ACode × List (List Nat))
  | .skip, ks => some (.skip, ks)
  | .region _ ops false, k :: ks =>
    match ops.back? with
    | some { op := .defer { callee := .value f, args, .. }, dst := none, guard := none, .. } =>
      (compOpers P n ops ops.toList.dropLast).map fun l => (.defer l f args.toList k, ks)
    | _ => (compOpers P n ops ops.toList).map fun l => (.region l k, ks)
  | .region _ ops true, k :: ks => (compD P n ops).map fun l => (.regionD l.1 l.2 k, ks)
  | .seq x y, ks => match compC P n x ks with
    | some (x', ks1) => match compC P n y ks1 with
      | some (y', ks2) => some (.seq x' y', ks2)
      | none => none
    | none => none
  | .cond c x y, ks => match compC P n x ks with
    | some (x', ks1) => match compC P n y ks1 with
      | some (y', ks2) => some (.cond c x' y', ks2)
      | none => none
    | none => none
  | .block id c, ks => (compC P n c ks).map fun p => (.block id p.1, p.2)
  | .loop c, k :: ks => (compC P n c ks).map fun p => (.loop k p.1, p.2)
  | .exit id, ks => some (.exit id, ks)
  | .ret, ks => some (.ret, ks)
  | _, _ => none

theorem back_of {α : Type} {ops : Array α} {o : α} (hb : ops.back? = some o) : ops.toList = ops.toList.dropLast ++ [o] := by
  have h1 : ops.toList.getLast? = some o := by rw [← hb]; simp [Array.back?, List.getLast?_eq_getElem?]
  rw [List.getLast?_eq_some_iff] at h1
  obtain ⟨l, hl⟩ := h1
  rw [hl]; simp

set_option maxHeartbeats 1000000 in
theorem evC_sound (hm : P.follows .mixedOrders = true) (hcf : CallOk P cf) (F : Nat) (res : Value × H) : ∀ (c : Code) (ks : List (List Nat)) (ac : ACode) (ks' : List (List Nat)), compC P n c ks = some (ac, ks') →
    ∀ (kn : K) (ke : Nat → K) (kr : K) (ρ : Ren) (h : H) (a : Act) (w : World) (s : Env) (ds : Ds), Rel ρ h w → EnvRel ρ n s a.tmps → DsRel ρ ds a.defers → evC F cf ac kn ke kr s h ds = some res →
    c.wp P (QQ n ρ h w kn ke kr res) a w := by
  intro c
  induction c with
  | skip =>
    intro ks ac ks' hc kn ke kr ρ h a w s ds r he hd e
    simp [compC] at hc; obtain ⟨rfl, rfl⟩ := hc
    exact wp_skip ⟨ρ, s, h, ds, r, he, hd, .refl _ _ _, e⟩
  | region id ops draw =>
    intro ks ac ks' hc kn ke kr ρ h a w s ds r he hd e
    cases draw with
    | true =>
      cases ks with
      | nil => simp [compC] at hc
      | cons k ks =>
        simp only [compC] at hc
        obtain ⟨l, hl, hf⟩ := Option.map_eq_some_iff.1 hc
        cases hf
        simp only [evC] at e
        refine evRegionD_sound hm hl hcf r he e ?_
        intro ρ' s' h' a' w' e' r' he' x' hdd
        exact ⟨ρ', _, h', ds, r', he'.keep _, by rw [hdd]; exact hd.mono x'.le, x', e'⟩
    | false =>
      cases ks with
      | nil => simp [compC] at hc
      | cons k ks =>
        simp only [compC] at hc
        refine wp_region_list ?_
        split at hc
        · rename_i f args ts ty pos aft hb
          obtain ⟨l, hl, hf⟩ := Option.map_eq_some_iff.1 hc
          cases hf
          simp only [evC] at e
          rw [back_of hb]
          refine evOps_sound hcf _ l hl r he e ?_
          intro ρ' s' h' a' w' e' r' he' x' hdd
          split at e'
          · rename_i d hdef
            unfold evDefer at hdef
            split at hdef
            · rename_i g first cap hfv
              cases hdef
              have hv := aeval_sound he' f
              rw [hfv] at hv
              generalize hev : a'.eval f = fv at *
              cases hv
              rename_i fs' cs' hfs hcs
              simp only [wpList]
              have hw : ∀ y, Region.wanted { dst := none, op := .defer { callee := .value f, args := args, argTypes := ts }, type := ty, pos := pos, after := aft, guard := none } y = true := fun y => rfl
              rw [if_pos (hw _)]
              refine .inl ?_
              unfold Oper.wp
              simp only [execOp, resolve, Sem.run_bind, hev, Deferred.ofValue, Sem.run_pure, Result.andThen_ok]
              show QQ n ρ h w kn ke kr res .normal _ w'
              refine ⟨ρ', _, h', _, r', he'.keep _, ?_, x', e'⟩
              show DsRel ρ' _ ({ target := .fn (.func g) ⟨cs'⟩, args := ⟨fs'⟩ ++ args.map a'.eval } :: a'.defers)
              have harr : (⟨fs'⟩ ++ args.map a'.eval : Array Value) = ⟨fs' ++ args.toList.map a'.eval⟩ := by apply Array.ext'; simp
              rw [harr]
              refine .cons ?_ (by rw [hdd]; exact hd.mono x'.le)
              exact (hfs.append (aeval_map he' args.toList)).append hcs
            · cases hdef
          · cases e'
        · obtain ⟨l, hl, hf⟩ := Option.map_eq_some_iff.1 hc
          cases hf
          simp only [evC] at e
          have := evOps_sound (rest := []) (Q := QQ n ρ h w kn ke kr res) hcf ops.toList l hl r he e (by
            intro ρ' s' h' a' w' e' r' he' x' hdd
            exact ⟨ρ', _, h', ds, r', he'.keep _, by rw [hdd]; exact hd.mono x'.le, x', e'⟩)
          simpa using this
  | seq x y ihx ihy =>
    intro ks ac ks' hc kn ke kr ρ h a w s ds r he hd e
    simp only [compC] at hc
    split at hc
    · rename_i x' ks1 hx
      split at hc
      · rename_i y' ks2 hy
        cases hc
        simp only [evC] at e
        refine wp_seq (wp_mono (ihx _ _ _ hx _ _ _ _ _ _ _ _ _ r he hd e) ?_)
        intro ex a1 w1 hq
        cases ex with
        | normal =>
          obtain ⟨ρ1, s1, h1, ds1, r1, he1, hd1, x1, e1⟩ := hq
          exact wp_mono (ihy _ _ _ hy _ _ _ _ _ _ _ _ _ r1 he1 hd1 e1) fun ex a2 w2 hq2 => hq2.from r x1
        | _ => exact hq
      · cases hc
    · cases hc
  | cond c x y ihx ihy =>
    intro ks ac ks' hc kn ke kr ρ h a w s ds r he hd e
    simp only [compC] at hc
    split at hc
    · rename_i x' ks1 hx
      split at hc
      · rename_i y' ks2 hy
        cases hc
        simp only [evC] at e
        have hv := aeval_sound he c
        split at e
        · rename_i hcv
          rw [hcv] at hv
          exact wp_cond_true hv.bool_inv (ihx _ _ _ hx _ _ _ _ _ _ _ _ _ r he hd e)
        · rename_i hcv
          rw [hcv] at hv
          exact wp_cond_false hv.bool_inv (ihy _ _ _ hy _ _ _ _ _ _ _ _ _ r he hd e)
        · cases e
      · cases hc
    · cases hc
  | block id c ih =>
    intro ks ac ks' hc kn ke kr ρ h a w s ds r he hd e
    simp only [compC] at hc
    obtain ⟨p, hp, hf⟩ := Option.map_eq_some_iff.1 hc
    cases hf
    simp only [evC] at e
    refine wp_block (wp_mono (ih _ _ _ (by rw [hp]) _ _ _ _ _ _ _ _ _ r he hd e) ?_)
    intro ex a1 w1 hq
    cases ex with
    | exit i =>
      simp only [Exit.inBlock, QQ] at hq ⊢
      by_cases hi : i = id
      · rw [if_pos hi] at hq ⊢; exact hq
      · rw [if_neg hi] at hq ⊢; exact hq
    | _ => exact hq
  | loop c ih =>
    intro ks ac ks' hc kn ke kr ρ h a w s ds r he hd e
    cases ks with
    | nil => simp [compC] at hc
    | cons k ks =>
      simp only [compC] at hc
      obtain ⟨p, hp, hf⟩ := Option.map_eq_some_iff.1 hc
      cases hf
      simp only [evC] at e
      refine wp_loop_rounds F ?_
      have key : ∀ (f : Nat) (ρ1 : Ren) (h1 : H) (a1 : Act) (w1 : World) (s1 : Env) (ds1 : Ds), Rel ρ1 h1 w1 → EnvRel ρ1 n s1 a1.tmps → DsRel ρ1 ds1 a1.defers → Ext ρ h w ρ1 h1 w1 →
          evLoop (fun again => evC F cf p.1 (fun s h ds => again (s.keep k) h ds) ke kr) f s1 h1 ds1 = some res → Code.rounds P c (QQ n ρ h w kn ke kr res) f a1 w1 := by
        intro f
        induction f with
        | zero => intro _ _ _ _ _ _ _ _ _ _ e; cases e
        | succ f ihf =>
          intro ρ1 h1 a1 w1 s1 ds1 r1 he1 hd1 x1 e1
          rw [rounds_succ]
          simp only [evLoop] at e1
          refine wp_mono (ih _ _ _ (by rw [hp]) _ _ _ _ _ _ _ _ _ r1 he1 hd1 e1) ?_
          intro ex a2 w2 hq
          cases ex with
          | normal =>
            obtain ⟨ρ2, s2, h2, ds2, r2, he2, hd2, x2, e2⟩ := hq
            exact ihf ρ2 h2 a2 w2 _ ds2 r2 (he2.keep _) hd2 (Ext.trans r x1 x2) e2
          | _ => exact hq.from r x1
      exact key F ρ h a w _ ds r (he.keep _) hd (.refl _ _ _) e
  | exit id =>
    intro ks ac ks' hc kn ke kr ρ h a w s ds r he hd e
    simp [compC] at hc; obtain ⟨rfl, rfl⟩ := hc
    exact wp_exit ⟨ρ, s, h, ds, r, he, hd, .refl _ _ _, e⟩
  | ret =>
    intro ks ac ks' hc kn ke kr ρ h a w s ds r he hd e
    simp [compC] at hc; obtain ⟨rfl, rfl⟩ := hc
    exact wp_ret ⟨ρ, s, h, ds, r, he, hd, .refl _ _ _, e⟩
  | _ => intro ks ac ks' hc; simp [compC] at hc

end Go.Ev
