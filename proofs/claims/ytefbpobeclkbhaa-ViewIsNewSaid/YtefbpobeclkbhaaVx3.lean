/- ViewIsNew: the whole script. -/
import Derived.Test.YtefbpobeclkbhaaVx2
set_option linter.unusedSimpArgs false
set_option linter.unusedVariables false
namespace Go.Proofs.Ytefbpobeclkbhaa
open Go.Ev

theorem ScAt.fr {N : Nat} {h h' : H} {v : Value} {acts : List Act} (s : ScAt N h v acts) (k : ∀ c, c < N → c < h.size → hget h' c = hget h c) : ScAt N h' v acts := by
  rcases s with s | ⟨sb, so, c, cs, es, lv, an, e, hn, hg, hi⟩
  · exact .inl s
  · exact .inr ⟨sb, so, c, cs, es, lv, an, e, hn, (k sb hn (lt_of_get hg)).trans hg, hi⟩

def vOut : ACode := (.seq (.region r10_10 [1, 6, 8, 9, 10, 11]) (.block 0 (.loop [1, 6, 8, 9, 10, 11] l10_25)))
theorem l10_cut2 : l10_25 = (.seq (.seq (.region r10_11 [1, 6, 8, 9, 10, 11, 40]) (.cond (.tmp 40) .skip (.exit 0))) (.seq (.block 1 (.seq vIn (.seq (.region r10_22 [1, 6, 8, 9, 10, 11, 91]) (.cond (.tmp 91) (.region r10_23 [1, 6, 8, 9, 10, 11]) .skip)))) (.region r10_24 [1, 6, 8, 9, 10, 11]))) := rfl

/-- Two and two are alike. -/
def Pairs (T : List VE) : Prop := ∀ (j : Nat) (e e' : VE), T[2 * j]? = some e → T[2 * j + 1]? = some e' → e.vs = e'.vs

theorem Pairs.add {T : List VE} (p : Pairs T) {i : Nat} (hl : T.length = 2 * i) {e1 e2 : VE} (h : e1.vs = e2.vs) : Pairs (T ++ [e1, e2]) := by
  intro j e e' h1 h2
  by_cases hj : j < i
  · rw [List.getElem?_append_left (by omega)] at h1 h2
    exact p j e e' h1 h2
  · rw [List.getElem?_append_right (by omega), hl] at h1 h2
    by_cases hji : j = i
    · subst hji
      simp at h1
      rw [show 2 * j + 1 - 2 * j = 1 by omega] at h2
      simp at h2
      subst h1 h2
      exact h
    · rw [List.getElem?_eq_none (by simp; omega)] at h1
      cases h1

set_option maxHeartbeats 4000000 in
theorem vOut_spec {F : Nat} (hF : 1100 ≤ F) {N : Nat} {κ : Nat → Nat} {g : H} {b : Nat} {r : Option Nat} {x : Sv} {bb : Nat} (s : S1 N κ g b r x bb (.slice none 0 0) (.slice none 0 0) (.slice none 0 0) (.slice none 0 0) []) (h0 : ∀ c, c < N → κ c = 0) (hN : N ≤ g.size) {sv : Value} {acts : List Act} (sc : ScAt N g sv acts)
    {kn kr : K} {ke : Nat → K} {Q : Value → H → Prop}
    (hk : ∀ g' κ' r' x' bv' bn' wv' pv' T (e : Env), S1 N κ' g' b r' x' bb bv' bn' wv' pv' T → 2 ≤ T.length → T.length ≤ 322 → Pairs T → (∃ e, T[T.length - 1]? = some e ∧ e.vs = x'.vs) →
      Ans (kn ((1, sv) :: (6, .pointer (some ⟨b, 0, none⟩)) :: (8, .pointer (some ⟨bb, 0, none⟩)) :: (9, wv') :: (10, pv') :: e) g' []) Q) :
    Ans (evC F (cf F) vOut kn ke kr [(1, sv), (6, .pointer (some ⟨b, 0, none⟩)), (8, .pointer (some ⟨bb, 0, none⟩)), (9, .slice none 0 0), (10, .slice none 0 0)] g []) Q := by
  have hl := sc.len
  obtain ⟨M, hM⟩ : ∃ M, M = min acts.length 160 := ⟨_, rfl⟩
  simp (disch := first | omega | (simp only [newRow_size, Array.size_setIfInBounds, Array.size_push]; done) | (simp only [newRow_size, Array.size_setIfInBounds, Array.size_push]; omega)) [vOut, r10_10]
  refine loop_rule (fun mm e g' => ∃ (i : Nat) (κ' : Nat → Nat) (r' : Option Nat) (x' : Sv) (bv' bn' wv' pv' : Value) (T : List VE), mm = M + 1 - i ∧ i ≤ M + 1 ∧ e = [(1, sv), (6, .pointer (some ⟨b, 0, none⟩)), (8, .pointer (some ⟨bb, 0, none⟩)), (9, wv'), (10, pv'), (11, .int .i64 i)] ∧ S1 N κ' g' b r' x' bb bv' bn' wv' pv' T ∧ T.length = 2 * i ∧ Pairs T ∧ (i = M + 1 → ∃ e, T[T.length - 1]? = some e ∧ e.vs = x'.vs) ∧ (∀ c, c < N → κ' c = 0) ∧ N ≤ g'.size ∧ ScAt N g' sv acts) ?_ _ (M + 1) _ _ (by omega) ⟨0, κ, r, x, _, _, _, _, [], by omega, by omega, rfl, s, rfl, fun j e e' h => by simp at h, fun h => by omega, h0, hN, sc⟩
  rintro mm e g' again ⟨i, κ', r', x', bv', bn', wv', pv', T, rfl, hi, rfl, s', hTl, hp, hlast, h0', hN', sc'⟩ ih
  have hw : IntKind.i64.wrap ((i : Int) + 1) = ((i + 1 : Nat) : Int) := by rw [IntKind.wrap_i64]; omega
  by_cases hlt : i ≤ M
  · have c1 : (i : Int) ≤ (acts.length : Int) := by omega
    have c2 : (i : Int) ≤ 160 := by omega
    simp (disch := first | omega | (simp only [newRow_size, Array.size_setIfInBounds, Array.size_push]; done) | (simp only [newRow_size, Array.size_setIfInBounds, Array.size_push]; omega)) [l10_cut2, r10_11, hl, c1, c2, eqT, eqF, neT, neF, ltT, ltF, leT, leF, nltT, nltF, nleT, nleF, nneT, nneF, flipX, List.getElem?_cons_zero, List.getElem?_cons_succ]
    refine vIn_spec (F := F) hF s' (by omega) ?_
    intro g2 κ2 bv2 bn2 wv2 pv2 e1 e2 e s2 he1 he2 z2 f2 a2
    have h02 : ∀ c, c < N → κ2 c = 0 := fun c hc => (a2 c (by omega)).trans (h0' c hc)
    have sc2 : ScAt N g2 sv acts := sc'.fr (fun c hc hcs => f2 c hcs (h0' c hc))
    have hp2 := hp.add hTl (e1 := e1) (e2 := e2) (he1.trans he2.symm)
    have hT2 : (T ++ [e1, e2]).length = 2 * (i + 1) := by simp; omega
    by_cases hact : i < M
    · have c3 : (i : Int) < (acts.length : Int) := by omega
      have c4 : (i : Int) < 160 := by omega
      have c5 : i < acts.length := by omega
      have sc0 := sc2
      rcases sc2 with ⟨_, rfl⟩ | ⟨sb, so, cc, cs, es, lv, an, rfl, hNs, hg, hi'⟩
      · simp at c5
      obtain ⟨a, ha⟩ : ∃ a, acts[i]? = some a := ⟨_, List.getElem?_eq_getElem c5⟩
      obtain ⟨q1, q2, ok⟩ := hi' i a ha
      have hgs := lt_of_get hg
      simp (disch := first | omega | (simp only [newRow_size, Array.size_setIfInBounds, Array.size_push]; done) | (simp only [newRow_size, Array.size_setIfInBounds, Array.size_push]; omega)) [r10_22, c3, c4, eqT, eqF, neT, neF, ltT, ltF, leT, leF, nltT, nltF, nleT, nleF, nneT, nneF, flipX, List.getElem?_cons_zero, List.getElem?_cons_succ, r10_23, hg, q1, q2, c5]
      have hd := did_spec (F := F) (by omega) s2.o.s s2.o.g ok
      simp only [Act.val] at hd
      refine Ans.next hd ?_
      intro v4 g4 p4
      obtain ⟨r4, rfl, sv4, f4, k4⟩ := p4
      have y4 := k4.1
      have hN2 : N ≤ g2.size := by omega
      have o4 : One N g4 b r4 (actM x' a) := ⟨sv4, s2.o.g.actM a, s2.o.nb, fun q hq => by
        rcases f4 with e' | ⟨q', e', h'⟩
        · exact s2.o.nr q (by rw [← e', hq])
        · rw [hq] at e'; cases e'; omega, actM_vs x' a s2.o.ne⟩
      have sc4 := sc0.stepO s2.o k4
      simp (disch := first | omega | (simp only [newRow_size, Array.size_setIfInBounds, Array.size_push]; done) | (simp only [newRow_size, Array.size_setIfInBounds, Array.size_push]; omega)) [r10_24, hw]
      have C4 : Cf κ2 [7] g2 g4 := Cf.ofL k4 (fun c hc => by rw [s2.ko c hc]; simp)
      have a4 : Agr g2.size κ2 (ext κ2 g2.size 7) := Agr.ext (Nat.le_refl _)
      refine ih (M + 1 - (i + 1)) _ _ (by omega) ⟨i + 1, ext κ2 g2.size 7, r4, actM x' a, bv2, bn2, wv2, pv2, T ++ [e1, e2], rfl, by omega, rfl, ⟨o4, ?_, C4.get s2.bat (by rw [s2.kb]; decide), (a4 bb (lt_of_get s2.bat)).trans s2.kb, s2.rA.tr C4 (by decide) a4, s2.rB.tr C4 (by decide) a4, s2.rW.tr C4 (by decide) a4, s2.rP.tr C4 (by decide) a4, fun e he => (s2.ent e he).tr C4 (by decide) (by decide) a4, s2.nd⟩, hT2, hp2, fun h => by omega, fun c hc => (a4 c (by omega)).trans (h02 c hc), by omega, sc4⟩
      intro c hc
      rcases List.mem_cons.1 hc with rfl | hc
      · rw [a4 c (lt_of_get s2.o.s.at')]
        exact s2.ko c (by simp)
      · rw [Option.mem_toList] at hc
        rcases f4 with e' | ⟨q', e', h'⟩
        · rw [hc] at e'
          rw [a4 c (s2.o.ltr c e'.symm)]
          exact s2.ko c (by simp [← e'])
        · rw [hc] at e'
          cases e'
          exact ext_ge h'
    · have hiM : i = M := by omega
      have c3 : ¬ ((i : Int) < (acts.length : Int) ∧ (i : Int) < 160) := by omega
      have done := hlast
      have last : ∃ e, (T ++ [e1, e2])[(T ++ [e1, e2]).length - 1]? = some e ∧ e.vs = x'.vs := ⟨e2, by
        rw [hT2, List.getElem?_append_right (by omega), hTl, show 2 * (i + 1) - 1 - 2 * i = 1 by omega]
        rfl, he2⟩
      by_cases c5 : (i : Int) < (acts.length : Int)
      · have c6 : ¬ (i : Int) < 160 := fun h => c3 ⟨c5, h⟩
        simp (disch := first | omega | (simp only [newRow_size, Array.size_setIfInBounds, Array.size_push]; done) | (simp only [newRow_size, Array.size_setIfInBounds, Array.size_push]; omega)) [r10_22, hl, c5, c6, eqT, eqF, neT, neF, ltT, ltF, leT, leF, nltT, nltF, nleT, nleF, nneT, nneF, flipX, List.getElem?_cons_zero, List.getElem?_cons_succ, r10_24, hw]
        exact ih (M + 1 - (i + 1)) _ _ (by omega) ⟨i + 1, κ2, r', x', bv2, bn2, wv2, pv2, T ++ [e1, e2], rfl, by omega, rfl, s2, hT2, hp2, fun _ => last, h02, by omega, sc2⟩
      · simp (disch := first | omega | (simp only [newRow_size, Array.size_setIfInBounds, Array.size_push]; done) | (simp only [newRow_size, Array.size_setIfInBounds, Array.size_push]; omega)) [r10_22, hl, c5, eqT, eqF, neT, neF, ltT, ltF, leT, leF, nltT, nltF, nleT, nleF, nneT, nneF, flipX, List.getElem?_cons_zero, List.getElem?_cons_succ, r10_24, hw]
        exact ih (M + 1 - (i + 1)) _ _ (by omega) ⟨i + 1, κ2, r', x', bv2, bn2, wv2, pv2, T ++ [e1, e2], rfl, by omega, rfl, s2, hT2, hp2, fun _ => last, h02, by omega, sc2⟩
  · have hiM : i = M + 1 := by omega
    have fin : ∀ e : Env, Ans (kn ((1, sv) :: (6, .pointer (some ⟨b, 0, none⟩)) :: (8, .pointer (some ⟨bb, 0, none⟩)) :: (9, wv') :: (10, pv') :: e) g' []) Q := fun e => hk g' κ' r' x' bv' bn' wv' pv' T e s' (by omega) (by omega) hp (hlast hiM)
    by_cases c5 : (i : Int) ≤ (acts.length : Int)
    · have c6 : ¬ (i : Int) ≤ 160 := by omega
      simp (disch := first | omega | (simp only [newRow_size, Array.size_setIfInBounds, Array.size_push]; done) | (simp only [newRow_size, Array.size_setIfInBounds, Array.size_push]; omega)) [l10_cut2, r10_11, hl, c5, c6, eqT, eqF, neT, neF, ltT, ltF, leT, leF, nltT, nltF, nleT, nleF, nneT, nneF, flipX, List.getElem?_cons_zero, List.getElem?_cons_succ]
      exact fin _
    · simp (disch := first | omega | (simp only [newRow_size, Array.size_setIfInBounds, Array.size_push]; done) | (simp only [newRow_size, Array.size_setIfInBounds, Array.size_push]; omega)) [l10_cut2, r10_11, hl, c5, eqT, eqF, neT, neF, ltT, ltF, leT, leF, nltT, nltF, nleT, nleF, nneT, nneF, flipX, List.getElem?_cons_zero, List.getElem?_cons_succ]
      exact fin _

end Go.Proofs.Ytefbpobeclkbhaa
