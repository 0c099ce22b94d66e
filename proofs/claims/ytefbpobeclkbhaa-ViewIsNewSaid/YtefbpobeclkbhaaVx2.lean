/- ViewIsNew: all rounds. -/
import Derived.Test.YtefbpobeclkbhaaVx1
set_option linter.unusedSimpArgs false
set_option linter.unusedVariables false
namespace Go.Proofs.Ytefbpobeclkbhaa
open Go.Ev

set_option maxHeartbeats 2000000 in
theorem vIn_spec {F : Nat} (hF : 1100 ≤ F) {N : Nat} {κ : Nat → Nat} {g : H} {b : Nat} {r : Option Nat} {x : Sv} {bb : Nat} {bv bn wv pv : Value} {T : List VE} (s : S1 N κ g b r x bb bv bn wv pv T) (hT : T.length ≤ 322) {sv : Value} {i : Nat}
    {kn kr : K} {ke : Nat → K} {Q : Value → H → Prop}
    (hk : ∀ g' κ' bv' bn' wv' pv' (e1 e2 : VE) (e : Env), S1 N κ' g' b r x bb bv' bn' wv' pv' (T ++ [e1, e2]) → e1.vs = x.vs → e2.vs = x.vs → g.size ≤ g'.size → (∀ c, c < g.size → κ c = 0 → hget g' c = hget g c) → Agr g.size κ κ' →
      Ans (kn ((1, sv) :: (6, .pointer (some ⟨b, 0, none⟩)) :: (8, .pointer (some ⟨bb, 0, none⟩)) :: (9, wv') :: (10, pv') :: (11, .int .i64 i) :: e) g' []) Q) :
    Ans (evC F (cf F) vIn kn ke kr [(1, sv), (6, .pointer (some ⟨b, 0, none⟩)), (8, .pointer (some ⟨bb, 0, none⟩)), (9, wv), (10, pv), (11, .int .i64 i)] g []) Q := by
  simp (disch := first | omega | (simp only [newRow_size, Array.size_setIfInBounds, Array.size_push]; done) | (simp only [newRow_size, Array.size_setIfInBounds, Array.size_push]; omega)) [vIn, r10_12]
  refine loop_rule (fun mm e g' => ∃ (k : Nat) (κ' : Nat → Nat) (bv' bn' wv' pv' : Value) (Es : List VE), mm = 2 - k ∧ k ≤ 2 ∧ e = [(1, sv), (6, .pointer (some ⟨b, 0, none⟩)), (8, .pointer (some ⟨bb, 0, none⟩)), (9, wv'), (10, pv'), (11, .int .i64 i), (12, .int .i64 k)] ∧ S1 N κ' g' b r x bb bv' bn' wv' pv' (T ++ Es) ∧ Es.length = k ∧ (∀ e ∈ Es, e.vs = x.vs) ∧ g.size ≤ g'.size ∧ (∀ c, c < g.size → κ c = 0 → hget g' c = hget g c) ∧ Agr g.size κ κ') ?_ _ 2 _ _ (by omega) ⟨0, κ, bv, bn, wv, pv, [], by omega, by omega, rfl, by simpa using s, rfl, by simp, Nat.le_refl _, fun _ _ _ => rfl, Agr.refl _ _⟩
  rintro mm e g' again ⟨k, κ', bv', bn', wv', pv', Es, rfl, hk2, rfl, s', hEl, hEs, zg, fg, ag⟩ ih
  have hw : IntKind.i64.wrap ((k : Int) + 1) = ((k + 1 : Nat) : Int) := by rw [IntKind.wrap_i64]; omega
  by_cases hlt : k < 2
  · have hkc : (k : Int) < 2 := by omega
    simp (disch := first | omega | (simp only [newRow_size, Array.size_setIfInBounds, Array.size_push]; done) | (simp only [newRow_size, Array.size_setIfInBounds, Array.size_push]; omega)) [l10_cut, r10_13, hkc, eqT, eqF, neT, neF, ltT, ltF, leT, leF, nltT, nltF, nleT, nleF, nneT, nneF, flipX, List.getElem?_cons_zero, List.getElem?_cons_succ]
    refine round_spec (F := F) hF s' (by simp; omega) ?_
    · intro g2 κ2 bv2 bn2 wv2 pv2 e s2 he z2 f2 a2
      simp (disch := first | omega | (simp only [newRow_size, Array.size_setIfInBounds, Array.size_push]; done) | (simp only [newRow_size, Array.size_setIfInBounds, Array.size_push]; omega)) [r10_20, hw]
      refine ih (2 - (k + 1)) _ _ (by omega) ⟨k + 1, κ2, bv2, bn2, wv2, pv2, Es ++ [e], rfl, by omega, rfl, by simpa using s2, by simp [hEl], ?_, by omega, ?_, ag.trans a2 zg⟩
      · intro d hd
        rcases List.mem_append.1 hd with hd | hd
        · exact hEs d hd
        · simp at hd; subst hd; exact he
      · intro c hc h0
        exact (f2 c (by omega) (by rw [ag c hc]; exact h0)).trans (fg c hc h0)
  · have hkk : k = 2 := by omega
    subst hkk
    match Es, hEl with
    | [e1, e2], _ =>
      simp (disch := first | omega | (simp only [newRow_size, Array.size_setIfInBounds, Array.size_push]; done) | (simp only [newRow_size, Array.size_setIfInBounds, Array.size_push]; omega)) [l10_cut, r10_13, eqT, eqF, neT, neF, ltT, ltF, leT, leF, nltT, nltF, nleT, nleF, nneT, nneF, flipX, List.getElem?_cons_zero, List.getElem?_cons_succ]
      exact hk g' κ' bv' bn' wv' pv' e1 e2 _ s' (hEs e1 (by simp)) (hEs e2 (by simp)) zg fg ag

end Go.Proofs.Ytefbpobeclkbhaa
