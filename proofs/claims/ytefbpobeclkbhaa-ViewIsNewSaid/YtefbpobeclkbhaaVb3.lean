/- The program's view service: Settle, Promote. -/
import Derived.Test.YtefbpobeclkbhaaVb2
set_option linter.unusedSimpArgs false
set_option linter.unusedVariables false
namespace Go.Proofs.Ytefbpobeclkbhaa
open Go.Ev

theorem locked_at {h E : H} {b : Nat} {r : Option Nat} {x : Sv} (s : SvAt h b 0 r x) (hg : hget E b = some (.cells (scells 1 r x) 0 true [])) (k : Kept h E [b]) : SvAt E b 1 r x := by
  refine ⟨hg, s.vs.kept k ?_, s.ne⟩
  intro q e hm
  rw [List.mem_singleton] at hm
  subst hm
  exact s.ne e

theorem Settle_spec {F : Nat} (hF : 2 ≤ F) {h : H} {b : Nat} {r : Option Nat} {x : Sv} (s : SvAt h b 0 r x) (hmax : x.vs.length ≤ 1000) (num node : Int) :
    Ans (cf F 14 [.pointer (some ⟨b, 0, none⟩), .int .i64 num, .int .i64 node] h) fun v h' => v = .int .i64 (setl x num node).1 ∧ SvAt h' b 0 r (setl x num node).2 ∧ Kept h h' [b] := by
  obtain ⟨F, rfl⟩ : ∃ G, F = G + 1 := ⟨F - 1, by omega⟩
  have hb := s.at'
  have hbs := lt_of_get hb
  rw [cf_step (a := a14) rfl rfl (by simp [a14])]
  simp [a14, r14_0, r14_1, r14_3, r14_4, r14_5, hb, hbs, scells, lock_eq (F := F) (by omega), flipX]
  refine Ans.next (now_spec (by omega) (lk := 1) (r := r) (x := x) (locked_at s (by simp [hbs, scells]) ⟨by simp, ?_⟩) hmax) ?_
  · intro c hc hn
    have hn' : ¬ b = c := fun e => hn (by simp [e])
    simp [hc, hn']
  rintro v h1 ⟨rfl, k1⟩
  have z1 := k1.1
  simp at z1
  have g1 := fun c => k1.get (b := c)
  simp only [List.not_mem_nil, not_false_eq_true, forall_const, Array.size_setIfInBounds, newRow_size] at g1
  have kr : ∀ (cs : List Value), Kept h (Array.setIfInBounds (Array.setIfInBounds (Ev.newRow h1 [.int .i64 0, .int .i64 0, .int .i64 0] 0 []) h1.size (.cells cs 0 true [])) b (.cells (scells 0 r (setl x num node).2) 0 true [])) [b] := by
    intro cs
    refine ⟨by simp; omega, ?_⟩
    intro c hc hn
    have hn' : ¬ b = c := fun e => hn (by simp [e])
    simp (disch := first | omega | (simp only [newRow_size, Array.size_setIfInBounds, Array.size_push]; done) | (simp only [newRow_size, Array.size_setIfInBounds, Array.size_push]; omega)) [g1]
  have fin : ∀ (c : Int) (h' : H), c = (setl x num node).1 → Kept h h' [b] → hget h' b = some (.cells (scells 0 r (setl x num node).2) 0 true []) → Ans (some (Value.int .i64 c, h')) fun v h' => v = .int .i64 (setl x num node).1 ∧ SvAt h' b 0 r (setl x num node).2 ∧ Kept h h' [b] := by
    intro c h' e1 k e3
    refine Ans.of ⟨by rw [e1], ⟨e3, ?_, s.ne⟩, k⟩
    have : (setl x num node).2.vs = x.vs := by unfold setl; split <;> rfl
    rw [this]
    refine s.vs.kept k ?_
    intro q e hm
    rw [List.mem_singleton] at hm
    subst hm
    exact s.ne e
  have kk : ∀ (h' : H), h'.size = h1.size + 1 → (∀ c, c < h1.size → ¬ b = c → hget h' c = hget h1 c) → Kept h h' [b] := by
    intro h' e1 e2
    refine ⟨by omega, fun c hc hn => ?_⟩
    have hn' : ¬ b = c := fun e => hn (by simp [e])
    rw [e2 c (by omega) hn']
    simp (disch := first | omega | (simp only [newRow_size, Array.size_setIfInBounds, Array.size_push]; done) | (simp only [newRow_size, Array.size_setIfInBounds, Array.size_push]; omega)) [g1]
  simp (disch := first | omega | (simp only [newRow_size, Array.size_setIfInBounds, Array.size_push]; done) | (simp only [newRow_size, Array.size_setIfInBounds, Array.size_push]; omega)) [r14_6, Vw.val, Vw.cells, g1, scells, flipX]
  by_cases c1 : x.now.num = 0
  · simp (disch := first | omega | (simp only [newRow_size, Array.size_setIfInBounds, Array.size_push]; done) | (simp only [newRow_size, Array.size_setIfInBounds, Array.size_push]; omega)) [r14_7, g1, eqT, eqF, neT, neF, ltT, ltF, leT, leF, nltT, nltF, nleT, nleF, nneT, nneF, flipX, List.getElem?_cons_zero, List.getElem?_cons_succ]
    refine fin _ _ (by simp [setl, c1]) (kk _ (by simp) (fun c hc hn => by simp (disch := first | omega | (simp only [newRow_size, Array.size_setIfInBounds, Array.size_push]; done) | (simp only [newRow_size, Array.size_setIfInBounds, Array.size_push]; omega)) [])) ?_
    simp (disch := first | omega | (simp only [newRow_size, Array.size_setIfInBounds, Array.size_push]; done) | (simp only [newRow_size, Array.size_setIfInBounds, Array.size_push]; omega)) [setl, c1, scells]
  by_cases c2 : num = x.now.num
  · by_cases c3 : node = x.now.pri
    · simp (disch := first | omega | (simp only [newRow_size, Array.size_setIfInBounds, Array.size_push]; done) | (simp only [newRow_size, Array.size_setIfInBounds, Array.size_push]; omega)) [r14_8, r14_9, g1, eqT, eqF, neT, neF, ltT, ltF, leT, leF, nltT, nltF, nleT, nleF, nneT, nneF, flipX, List.getElem?_cons_zero, List.getElem?_cons_succ]
      refine fin _ _ (by simp [setl, c1, c2, c3]) (kk _ (by simp) (fun c hc hn => by simp (disch := first | omega | (simp only [newRow_size, Array.size_setIfInBounds, Array.size_push]; done) | (simp only [newRow_size, Array.size_setIfInBounds, Array.size_push]; omega)) [])) ?_
      simp (disch := first | omega | (simp only [newRow_size, Array.size_setIfInBounds, Array.size_push]; done) | (simp only [newRow_size, Array.size_setIfInBounds, Array.size_push]; omega)) [setl, c1, c2, c3, scells]
    · simp (disch := first | omega | (simp only [newRow_size, Array.size_setIfInBounds, Array.size_push]; done) | (simp only [newRow_size, Array.size_setIfInBounds, Array.size_push]; omega)) [r14_7, g1, eqT, eqF, neT, neF, ltT, ltF, leT, leF, nltT, nltF, nleT, nleF, nneT, nneF, flipX, List.getElem?_cons_zero, List.getElem?_cons_succ]
      refine fin _ _ (by simp [setl, c1, c2, c3]) (kk _ (by simp) (fun c hc hn => by simp (disch := first | omega | (simp only [newRow_size, Array.size_setIfInBounds, Array.size_push]; done) | (simp only [newRow_size, Array.size_setIfInBounds, Array.size_push]; omega)) [])) ?_
      simp (disch := first | omega | (simp only [newRow_size, Array.size_setIfInBounds, Array.size_push]; done) | (simp only [newRow_size, Array.size_setIfInBounds, Array.size_push]; omega)) [setl, c1, c2, c3, scells]
  · simp (disch := first | omega | (simp only [newRow_size, Array.size_setIfInBounds, Array.size_push]; done) | (simp only [newRow_size, Array.size_setIfInBounds, Array.size_push]; omega)) [r14_7, g1, eqT, eqF, neT, neF, ltT, ltF, leT, leF, nltT, nltF, nleT, nleF, nneT, nneF, flipX, List.getElem?_cons_zero, List.getElem?_cons_succ]
    refine fin _ _ (by simp [setl, c1, c2]) (kk _ (by simp) (fun c hc hn => by simp (disch := first | omega | (simp only [newRow_size, Array.size_setIfInBounds, Array.size_push]; done) | (simp only [newRow_size, Array.size_setIfInBounds, Array.size_push]; omega)) [])) ?_
    simp (disch := first | omega | (simp only [newRow_size, Array.size_setIfInBounds, Array.size_push]; done) | (simp only [newRow_size, Array.size_setIfInBounds, Array.size_push]; omega)) [setl, c1, c2, scells]

set_option maxHeartbeats 1000000 in
theorem Promote_spec {F : Nat} (hF : 2 ≤ F) {h : H} {b : Nat} {r : Option Nat} {x : Sv} (s : SvAt h b 0 r x) (g : Good x) (p q : Int) :
    Ans (cf F 15 [.pointer (some ⟨b, 0, none⟩), .int .i64 p, .int .i64 q] h) fun v h' => v = .int .i64 (prom x p q).1 ∧ (∃ r', SvAt h' b 0 r' (prom x p q).2 ∧ (r' = r ∨ ∃ q, r' = some q ∧ h.size ≤ q)) ∧ Kept h h' (b :: r.toList) := by
  obtain ⟨F, rfl⟩ : ∃ G, F = G + 1 := ⟨F - 1, by omega⟩
  have hb := s.at'
  have hbs := lt_of_get hb
  have hlen := g.len
  have hnum := g.len_num
  rw [cf_step (a := a15) rfl rfl (by simp [a15])]
  simp [a15, r15_0, r15_1, r15_3, r15_4, r15_5, hb, hbs, scells, lock_eq (F := F) (by omega), flipX]
  refine Ans.next (now_spec (by omega) (lk := 1) (r := r) (x := x) (locked_at s (by simp [hbs, scells]) ⟨by simp, ?_⟩) (by omega)) ?_
  · intro c hc hn
    have hn' : ¬ b = c := fun e => hn (by simp [e])
    simp [hc, hn']
  rintro v h1 ⟨rfl, k1⟩
  have z1 := k1.1
  simp at z1
  have g1 := fun c => k1.get (b := c)
  simp only [List.not_mem_nil, not_false_eq_true, forall_const, Array.size_setIfInBounds, newRow_size] at g1
  have fin : ∀ (c : Int) (h' : H), c ≠ 0 → prom x p q = (c, x) → h'.size = h1.size + 1 → (∀ c, c < h1.size → ¬ b = c → hget h' c = hget h1 c) → hget h' b = some (.cells (scells 0 r x) 0 true []) →
      Ans (some (Value.int .i64 c, h')) fun v h' => v = .int .i64 (prom x p q).1 ∧ (∃ r', SvAt h' b 0 r' (prom x p q).2 ∧ (r' = r ∨ ∃ q, r' = some q ∧ h.size ≤ q)) ∧ Kept h h' (b :: r.toList) := by
    intro c h' e0 e1 e2 e3 e4
    have k : Kept h h' [b] := by
      refine ⟨by omega, fun c hc hn => ?_⟩
      have hn' : ¬ b = c := fun e => hn (by simp [e])
      rw [e3 c (by omega) hn']
      simp (disch := first | omega | (simp only [newRow_size, Array.size_setIfInBounds, Array.size_push]; done) | (simp only [newRow_size, Array.size_setIfInBounds, Array.size_push]; omega)) [g1]
    refine Ans.of ?_
    rw [e1]
    refine ⟨rfl, ⟨r, ⟨e4, ?_, s.ne⟩, .inl rfl⟩, k.weak (by simp)⟩
    refine s.vs.kept k ?_
    intro q e hm
    rw [List.mem_singleton] at hm
    subst hm
    exact s.ne e
  simp (disch := first | omega | (simp only [newRow_size, Array.size_setIfInBounds, Array.size_push]; done) | (simp only [newRow_size, Array.size_setIfInBounds, Array.size_push]; omega)) [r15_6, Vw.val, Vw.cells, g1, scells, flipX]
  cases c0 : x.st with
  | false =>
    simp (disch := first | omega | (simp only [newRow_size, Array.size_setIfInBounds, Array.size_push]; done) | (simp only [newRow_size, Array.size_setIfInBounds, Array.size_push]; omega)) [r15_7, g1, eqT, eqF, neT, neF, ltT, ltF, leT, leF, nltT, nltF, nleT, nleF, nneT, nneF, flipX, List.getElem?_cons_zero, List.getElem?_cons_succ, c0]
    refine fin _ _ (by simp) (by simp [prom, c0]) (by simp) (fun c hc hn => by simp (disch := first | omega | (simp only [newRow_size, Array.size_setIfInBounds, Array.size_push]; done) | (simp only [newRow_size, Array.size_setIfInBounds, Array.size_push]; omega)) []) ?_
    simp (disch := first | omega | (simp only [newRow_size, Array.size_setIfInBounds, Array.size_push]; done) | (simp only [newRow_size, Array.size_setIfInBounds, Array.size_push]; omega)) [scells, c0]
  | true =>
    have fin120 := fun h' => fin 120 h' (by simp)
    have hnode := node_in (F := F) (by omega)
    have e1 : ∀ c, c < h1.size → hget (Ev.newRow h1 [.int .i64 x.now.num, .int .i64 x.now.pri, .int .i64 x.now.bak] 0 []) c = hget h1 c := fun c hc => by simp [hc]
    simp (disch := first | omega | (simp only [newRow_size, Array.size_setIfInBounds, Array.size_push]; done) | (simp only [newRow_size, Array.size_setIfInBounds, Array.size_push]; omega)) [r15_8, g1, eqT, eqF, neT, neF, ltT, ltF, leT, leF, nltT, nltF, nleT, nleF, nneT, nneF, flipX, List.getElem?_cons_zero, List.getElem?_cons_succ, c0]
    by_cases hp : (p ≠ x.now.pri ∧ p ≠ x.now.bak) ∨ ¬ (1 ≤ p ∧ p ≤ x.nodes)
    · have hm : prom x p q = (120, x) := by unfold prom; rw [if_neg (by simp [c0]), if_pos hp]
      by_cases c1 : p = x.now.pri <;> by_cases c2 : p = x.now.bak <;> by_cases c3 : 1 ≤ p <;> by_cases c4 : p ≤ x.nodes <;> first
        | (exfalso; omega)
        | (simp (disch := first | omega | (simp only [newRow_size, Array.size_setIfInBounds, Array.size_push]; done) | (simp only [newRow_size, Array.size_setIfInBounds, Array.size_push]; omega)) [eqT, eqF, neT, neF, ltT, ltF, leT, leF, nltT, nltF, nleT, nleF, nneT, nneF, flipX, List.getElem?_cons_zero, List.getElem?_cons_succ, hnode, a30, r30_0, r30_1, g1, r15_9]
           refine fin120 _ hm (by simp) (fun c hc hn => by simp (disch := first | omega | (simp only [newRow_size, Array.size_setIfInBounds, Array.size_push]; done) | (simp only [newRow_size, Array.size_setIfInBounds, Array.size_push]; omega)) []) ?_
           simp (disch := first | omega | (simp only [newRow_size, Array.size_setIfInBounds, Array.size_push]; done) | (simp only [newRow_size, Array.size_setIfInBounds, Array.size_push]; omega)) [scells, c0])
    have hp1 : 1 ≤ p := by omega
    have hp2 : p ≤ x.nodes := by omega
    by_cases hq : (q ≠ 0 ∧ ¬ (1 ≤ q ∧ q ≤ x.nodes)) ∨ q = p
    · have hm : prom x p q = (120, x) := by unfold prom; rw [if_neg (by simp [c0]), if_neg hp, if_pos hq]
      by_cases c1 : p = x.now.pri <;> by_cases c2 : q = 0 <;> by_cases c3 : 1 ≤ q <;> by_cases c4 : q ≤ x.nodes <;> by_cases c5 : q = p <;> first
        | (exfalso; omega)
        | (simp (disch := first | omega | (simp only [newRow_size, Array.size_setIfInBounds, Array.size_push]; done) | (simp only [newRow_size, Array.size_setIfInBounds, Array.size_push]; omega)) [eqT, eqF, neT, neF, ltT, ltF, leT, leF, nltT, nltF, nleT, nleF, nneT, nneF, flipX, List.getElem?_cons_zero, List.getElem?_cons_succ, hnode, a30, r30_0, r30_1, g1, r15_9, r15_10, r15_11]
           refine fin120 _ hm (by simp) (fun c hc hn => by simp (disch := first | omega | (simp only [newRow_size, Array.size_setIfInBounds, Array.size_push]; done) | (simp only [newRow_size, Array.size_setIfInBounds, Array.size_push]; omega)) []) ?_
           simp (disch := first | omega | (simp only [newRow_size, Array.size_setIfInBounds, Array.size_push]; done) | (simp only [newRow_size, Array.size_setIfInBounds, Array.size_push]; omega)) [scells, c0])
    have hne : x.vs ≠ [] := fun e => by rw [g.st e] at c0; cases c0
    obtain ⟨r, rfl⟩ : ∃ q, r = some q := by
      cases r with
      | none => exact absurd s.vs hne
      | some q => exact ⟨q, rfl⟩
    have hrb : ¬ b = r := fun e => s.ne (by rw [e])
    obtain ⟨an, hr⟩ := s.vs
    have hrs := lt_of_get hr
    have hl := vcs_length x.vs
    have hw : IntKind.i64.wrap (x.now.num + 1) = x.now.num + 1 := by rw [IntKind.wrap_i64]; omega
    by_cases hn : 400 < x.vs.length
    · have hm : prom x p q = (3, x) := by unfold prom; rw [if_neg (by simp [c0]), if_neg hp, if_neg hq, if_pos (.inr hn)]
      by_cases c1 : p = x.now.pri <;> by_cases c2 : q = 0 <;> first
        | (exfalso; omega)
        | (simp (disch := first | omega | (simp only [newRow_size, Array.size_setIfInBounds, Array.size_push]; done) | (simp only [newRow_size, Array.size_setIfInBounds, Array.size_push]; omega)) [eqT, eqF, neT, neF, ltT, ltF, leT, leF, nltT, nltF, nleT, nleF, nneT, nneF, flipX, List.getElem?_cons_zero, List.getElem?_cons_succ, hnode, a30, r30_0, r30_1, g1, r15_9, r15_10, r15_12, r15_13]
           refine fin 3 _ (by simp) hm (by simp) (fun c hc hn => by simp (disch := first | omega | (simp only [newRow_size, Array.size_setIfInBounds, Array.size_push]; done) | (simp only [newRow_size, Array.size_setIfInBounds, Array.size_push]; omega)) []) ?_
           simp (disch := first | omega | (simp only [newRow_size, Array.size_setIfInBounds, Array.size_push]; done) | (simp only [newRow_size, Array.size_setIfInBounds, Array.size_push]; omega)) [scells, c0])
    · have hm : prom x p q = (0, ⟨x.nodes, x.vs ++ [⟨x.now.num + 1, p, q⟩], false⟩) := by unfold prom; rw [if_neg (by simp [c0]), if_neg hp, if_neg hq, if_neg (by omega)]
      by_cases c1 : p = x.now.pri <;> by_cases c2 : q = 0
      all_goals
        simp (disch := first | omega | (simp only [newRow_size, Array.size_setIfInBounds, Array.size_push]; done) | (simp only [newRow_size, Array.size_setIfInBounds, Array.size_push]; omega)) [eqT, eqF, neT, neF, ltT, ltF, leT, leF, nltT, nltF, nleT, nleF, nneT, nneF, flipX, List.getElem?_cons_zero, List.getElem?_cons_succ, hnode, a30, r30_0, r30_1, g1, r15_9, r15_10, r15_12, d15_14, r15_15, r15_16, hr, hw, srcOf, appendTo, hl, List.take_of_length_le]
      all_goals
        refine Ans.of ?_
        rw [hm]
        refine ⟨rfl, ⟨some (h1.size + 2), ⟨?_, ?_, ?_⟩, .inr ⟨_, rfl, by omega⟩⟩, ?_⟩
        · simp (disch := first | omega | (simp only [newRow_size, Array.size_setIfInBounds, Array.size_push]; done) | (simp only [newRow_size, Array.size_setIfInBounds, Array.size_push]; omega)) [scells]
        · exact ⟨r :: an, by simp (disch := first | omega | (simp only [newRow_size, Array.size_setIfInBounds, Array.size_push]; done) | (simp only [newRow_size, Array.size_setIfInBounds, Array.size_push]; omega)) [vcs_append, vcs, Vw.cells]⟩
        · simp; omega
        · refine ⟨by simp; omega, fun c hc hn => ?_⟩
          simp only [List.mem_cons, Option.toList, List.not_mem_nil, or_false, not_or] at hn
          obtain ⟨n1, n2⟩ := hn
          simp (disch := first | omega | (simp only [newRow_size, Array.size_setIfInBounds, Array.size_push]; done) | (simp only [newRow_size, Array.size_setIfInBounds, Array.size_push]; omega)) [g1]

end Go.Proofs.Ytefbpobeclkbhaa
