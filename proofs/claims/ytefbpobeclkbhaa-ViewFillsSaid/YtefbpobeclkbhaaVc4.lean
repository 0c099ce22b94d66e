/- ViewFills. -/
import Derived.Test.YtefbpobeclkbhaaVc1
set_option linter.unusedSimpArgs false
set_option linter.unusedVariables false
namespace Go.Proofs.Ytefbpobeclkbhaa
open Go.Ev

theorem setl_now {x : Sv} (g : Good x) (h : x.vs ≠ []) : setl x x.now.num x.now.pri = (0, ⟨x.nodes, x.vs, true⟩) := by
  have := g.now h
  have hl : 0 < x.vs.length := List.length_pos_iff.2 h
  unfold setl
  rw [if_neg (by omega)]

theorem prom_swap {x : Sv} (g : Good x) (h : x.vs ≠ []) (hb : 1 ≤ x.now.bak) (hs : x.st = true) :
    prom x x.now.bak x.now.pri = if 400 < x.vs.length then (3, x) else (0, ⟨x.nodes, x.vs ++ [⟨x.now.num + 1, x.now.bak, x.now.pri⟩], false⟩) := by
  have := g.now h
  have := g.len
  unfold prom
  rw [if_neg (by simp [hs]), if_neg (by omega), if_neg (by omega)]
  by_cases c : 400 < x.vs.length
  · rw [if_pos (.inr c), if_pos c]
  · rw [if_neg (by omega), if_neg c]

set_option maxHeartbeats 1000000 in
theorem fills_spec {F : Nat} (hF : 1010 ≤ F) (h : H) (n more : Int) :
    Ans (cf F 3 [.int .i64 n, .int .i64 more] h) fun v h' => v = .bool true := by
  obtain ⟨F, rfl⟩ : ∃ G, F = G + 1 := ⟨F - 1, by omega⟩
  rw [cf_step (a := a3) rfl rfl (by simp [a3])]
  simp (disch := first | omega | (simp only [newRow_size, Array.size_setIfInBounds, Array.size_push]; done) | (simp only [newRow_size, Array.size_setIfInBounds, Array.size_push]; omega)) [a3, r3_0, r3_1]
  refine Ans.next (begins_spec (F := F) (by omega) h) ?_
  rintro v1 h1 ⟨rfl, k1⟩
  have y1 := k1.1
  simp (disch := first | omega | (simp only [newRow_size, Array.size_setIfInBounds, Array.size_push]; done) | (simp only [newRow_size, Array.size_setIfInBounds, Array.size_push]; omega)) [r3_2]
  by_cases c1 : n < 2
  · simp (disch := first | omega | (simp only [newRow_size, Array.size_setIfInBounds, Array.size_push]; done) | (simp only [newRow_size, Array.size_setIfInBounds, Array.size_push]; omega)) [r3_4, r3_5, eqT, eqF, neT, neF, ltT, ltF, leT, leF, nltT, nltF, nleT, nleF, nneT, nneF, flipX, List.getElem?_cons_zero, List.getElem?_cons_succ]
    exact Ans.of rfl
  by_cases c2 : 5 < n
  · simp (disch := first | omega | (simp only [newRow_size, Array.size_setIfInBounds, Array.size_push]; done) | (simp only [newRow_size, Array.size_setIfInBounds, Array.size_push]; omega)) [r3_4, r3_5, eqT, eqF, neT, neF, ltT, ltF, leT, leF, nltT, nltF, nleT, nleF, nneT, nneF, flipX, List.getElem?_cons_zero, List.getElem?_cons_succ]
    exact Ans.of rfl
  by_cases c3 : more < 0
  · simp (disch := first | omega | (simp only [newRow_size, Array.size_setIfInBounds, Array.size_push]; done) | (simp only [newRow_size, Array.size_setIfInBounds, Array.size_push]; omega)) [r3_4, r3_5, eqT, eqF, neT, neF, ltT, ltF, leT, leF, nltT, nltF, nleT, nleF, nneT, nneF, flipX, List.getElem?_cons_zero, List.getElem?_cons_succ]
    exact Ans.of rfl
  by_cases c4 : 5 < more
  · simp (disch := first | omega | (simp only [newRow_size, Array.size_setIfInBounds, Array.size_push]; done) | (simp only [newRow_size, Array.size_setIfInBounds, Array.size_push]; omega)) [r3_4, r3_5, eqT, eqF, neT, neF, ltT, ltF, leT, leF, nltT, nltF, nleT, nleF, nneT, nneF, flipX, List.getElem?_cons_zero, List.getElem?_cons_succ]
    exact Ans.of rfl
  simp (disch := first | omega | (simp only [newRow_size, Array.size_setIfInBounds, Array.size_push]; done) | (simp only [newRow_size, Array.size_setIfInBounds, Array.size_push]; omega)) [r3_4, r3_6, eqT, eqF, neT, neF, ltT, ltF, leT, leF, nltT, nltF, nleT, nleF, nneT, nneF, flipX, List.getElem?_cons_zero, List.getElem?_cons_succ]
  refine Ans.next (New_spec (F := F) (by omega) h1 n (by omega) (by omega)) ?_
  rintro v2 h2 ⟨b, r, rfl, s2, zb, zr, k2⟩
  have y2 := k2.1
  simp (disch := first | omega | (simp only [newRow_size, Array.size_setIfInBounds, Array.size_push]; done) | (simp only [newRow_size, Array.size_setIfInBounds, Array.size_push]; omega)) [r3_7, r3_9, r3_10, eqT, eqF, neT, neF, ltT, ltF, leT, leF, nltT, nltF, nleT, nleF, nneT, nneF, flipX, List.getElem?_cons_zero, List.getElem?_cons_succ]
  generalize some r = ro at s2
  have hfb : (first n).now.bak = 2 := by
    have : ¬ n = 1 := by omega
    simp [first, Sv.now, lastV, this]
  have hw4 : IntKind.i64.wrap (400 + more) = 400 + more := wrap_id (by omega) (by omega)
  refine loop_rule (fun m s g => ∃ (i : Nat) (x : Sv) (r : Option Nat), m = 1000 - i ∧ (i : Int) ≤ 400 + more ∧ s = [(0, .int .i64 n), (1, .int .i64 more), (6, .pointer (some ⟨b, 0, none⟩)), (8, .int .i64 (x.vs.length - 1 : Nat)), (9, .int .i64 i)] ∧ SvAt g b 0 r x ∧ Good x ∧ x.vs ≠ [] ∧ 1 ≤ x.now.bak ∧ x.nodes = n ∧ (i ≤ 400 → x.vs.length = i + 1) ∧ (400 ≤ i → x.vs.length = 401)) ?_ _ 1000 _ _ (by omega)
    ⟨0, first n, ro, rfl, by omega, by simp [first], s2, Good.first (by omega) (by omega), by simp [first], by omega, rfl, by simp [first], by omega⟩
  rintro m s g again ⟨i, x, r, rfl, hi, rfl, sv, gd, hne, hbk, hno, hi1, hi2⟩ ih
  have hlen := gd.len
  have hnow := gd.now hne
  have hl0 : 0 < x.vs.length := List.length_pos_iff.2 hne
  by_cases hlt : (i : Int) < 400 + more
  · simp (disch := first | omega | (simp only [newRow_size, Array.size_setIfInBounds, Array.size_push]; done) | (simp only [newRow_size, Array.size_setIfInBounds, Array.size_push]; omega)) [l3_20, r3_11, r3_12, hw4, eqT, eqF, neT, neF, ltT, ltF, leT, leF, nltT, nltF, nleT, nleF, nneT, nneF, flipX, List.getElem?_cons_zero, List.getElem?_cons_succ]
    refine Ans.next (Now_spec (F := F) (by omega) sv (by omega)) ?_
    rintro v3 h3 ⟨rfl, k3⟩
    have y3 := k3.1
    simp (disch := first | omega | (simp only [newRow_size, Array.size_setIfInBounds, Array.size_push]; done) | (simp only [newRow_size, Array.size_setIfInBounds, Array.size_push]; omega)) [Vw.val, Vw.cells, r3_13, eqT, eqF, neT, neF, ltT, ltF, leT, leF, nltT, nltF, nleT, nleF, nneT, nneF, flipX, List.getElem?_cons_zero, List.getElem?_cons_succ]
    have e3 : hget (Ev.newRow h3 [.int .i64 x.now.num, .int .i64 x.now.pri, .int .i64 x.now.bak] 0 []) h3.size = some (.cells [.int .i64 x.now.num, .int .i64 x.now.pri, .int .i64 x.now.bak] 0 true []) := by simp
    have sv3 := (sv.frame k3).frame (row_kept h3 [.int .i64 x.now.num, .int .i64 x.now.pri, .int .i64 x.now.bak] 0 [])
    have hb3 := lt_of_get (sv.frame k3).at'
    generalize Ev.newRow h3 [.int .i64 x.now.num, .int .i64 x.now.pri, .int .i64 x.now.bak] 0 [] = h4 at e3 sv3 ⊢
    refine Ans.next (Settle_spec (F := F) (by omega) sv3 (by omega) x.now.num x.now.pri) ?_
    rw [setl_now gd hne]
    rintro v5 h5 ⟨rfl, sv5, k5⟩
    have e5 := (k5.get (lt_of_get e3) (by simp; omega)).trans e3
    have gd5 : Good ⟨x.nodes, x.vs, true⟩ := by
      have := gd.setl x.now.num x.now.pri
      rw [setl_now gd hne] at this
      exact this
    simp (disch := first | omega | (simp only [newRow_size, Array.size_setIfInBounds, Array.size_push]; done) | (simp only [newRow_size, Array.size_setIfInBounds, Array.size_push]; omega)) [r3_14, e5, eqT, eqF, neT, neF, ltT, ltF, leT, leF, nltT, nltF, nleT, nleF, nneT, nneF, flipX, List.getElem?_cons_zero, List.getElem?_cons_succ]
    refine Ans.next (Promote_spec (F := F) (by omega) sv5 gd5 x.now.bak x.now.pri) ?_
    have hsw : prom ⟨x.nodes, x.vs, true⟩ x.now.bak x.now.pri = _ := prom_swap gd5 hne hbk rfl
    rw [hsw]
    rintro v6 h6 ⟨rfl, ⟨r', sv6, _⟩, k6⟩
    have hw1 : IntKind.i64.wrap ((i : Int) + 1) = ((i + 1 : Nat) : Int) := by rw [IntKind.wrap_i64]; omega
    by_cases c400 : 400 < x.vs.length
    · rw [if_pos c400] at sv6
      have hx401 : x.vs.length = 401 := by omega
      have hi400 : 400 ≤ i := by
        by_cases q : 400 ≤ i
        · exact q
        · have := hi1 (by omega); omega
      simp (disch := first | omega | (simp only [newRow_size, Array.size_setIfInBounds, Array.size_push]; done) | (simp only [newRow_size, Array.size_setIfInBounds, Array.size_push]; omega)) [c400, hx401, r3_15, r3_17, r3_19, hw1, eqT, eqF, neT, neF, ltT, ltF, leT, leF, nltT, nltF, nleT, nleF, nneT, nneF, flipX, List.getElem?_cons_zero, List.getElem?_cons_succ]
      refine ih (1000 - (i + 1)) _ _ (by omega) ⟨i + 1, ⟨x.nodes, x.vs, true⟩, r', rfl, by omega, by simp [hx401], sv6, gd5, hne, hbk, hno, by omega, fun _ => hx401⟩
    · rw [if_neg c400] at sv6
      have gd6 : Good ⟨x.nodes, x.vs ++ [⟨x.now.num + 1, x.now.bak, x.now.pri⟩], false⟩ := by
        have := gd5.prom x.now.bak x.now.pri
        rw [hsw, if_neg c400] at this
        exact this
      have hw2 : IntKind.i64.wrap (((x.vs.length - 1 : Nat) : Int) + 1) = ((x.vs.length : Nat) : Int) := by rw [IntKind.wrap_i64]; omega
      simp (disch := first | omega | (simp only [newRow_size, Array.size_setIfInBounds, Array.size_push]; done) | (simp only [newRow_size, Array.size_setIfInBounds, Array.size_push]; omega)) [c400, r3_15, r3_17, r3_18, r3_19, hw1, hw2, eqT, eqF, neT, neF, ltT, ltF, leT, leF, nltT, nltF, nleT, nleF, nneT, nneF, flipX, List.getElem?_cons_zero, List.getElem?_cons_succ]
      refine ih (1000 - (i + 1)) _ _ (by omega) ⟨i + 1, _, r', rfl, by omega, by simp, sv6, gd6, by simp, ?_, hno, ?_, ?_⟩
      · show 1 ≤ (lastV (x.vs ++ [_])).bak
        rw [lastV_snoc]
        exact hnow.2.1
      · intro q
        have := hi1 (by omega)
        simp; omega
      · intro q
        simp
        by_cases e : i = 399
        · have := hi1 (by omega); omega
        · have := hi2 (by omega); omega
  · have hx401 : x.vs.length = 401 := hi2 (by omega)
    simp (disch := first | omega | (simp only [newRow_size, Array.size_setIfInBounds, Array.size_push]; done) | (simp only [newRow_size, Array.size_setIfInBounds, Array.size_push]; omega)) [l3_20, r3_11, r3_21, hw4, eqT, eqF, neT, neF, ltT, ltF, leT, leF, nltT, nltF, nleT, nleF, nneT, nneF, flipX, List.getElem?_cons_zero, List.getElem?_cons_succ]
    refine Ans.next (Now_spec (F := F) (by omega) sv (by omega)) ?_
    rintro v3 h3 ⟨rfl, k3⟩
    simp (disch := first | omega | (simp only [newRow_size, Array.size_setIfInBounds, Array.size_push]; done) | (simp only [newRow_size, Array.size_setIfInBounds, Array.size_push]; omega)) [Vw.val, Vw.cells, r3_22, eqT, eqF, neT, neF, ltT, ltF, leT, leF, nltT, nltF, nleT, nleF, nneT, nneF, flipX, List.getElem?_cons_zero, List.getElem?_cons_succ]
    have e3 : hget (Ev.newRow h3 [.int .i64 x.now.num, .int .i64 x.now.pri, .int .i64 x.now.bak] 0 []) h3.size = some (.cells [.int .i64 x.now.num, .int .i64 x.now.pri, .int .i64 x.now.bak] 0 true []) := by simp
    have sv3 := (sv.frame k3).frame (row_kept h3 [.int .i64 x.now.num, .int .i64 x.now.pri, .int .i64 x.now.bak] 0 [])
    have hb3 := lt_of_get (sv.frame k3).at'
    have hr3 : ∀ q, r = some q → q < h3.size := by
      intro q e
      have := (sv.frame k3).vs
      subst e
      exact this.lt
    generalize Ev.newRow h3 [.int .i64 x.now.num, .int .i64 x.now.pri, .int .i64 x.now.bak] 0 [] = h4 at e3 sv3 ⊢
    refine Ans.next (Settle_spec (F := F) (by omega) sv3 (by omega) x.now.num x.now.pri) ?_
    rw [setl_now gd hne]
    rintro v5 h5 ⟨rfl, sv5, k5⟩
    have e5 := (k5.get (lt_of_get e3) (by simp; omega)).trans e3
    have gd5 : Good ⟨x.nodes, x.vs, true⟩ := by
      have := gd.setl x.now.num x.now.pri
      rw [setl_now gd hne] at this
      exact this
    have hp1 : prom ⟨x.nodes, x.vs, true⟩ x.now.pri x.now.pri = (120, ⟨x.nodes, x.vs, true⟩) := by
      have hq : Sv.now ⟨x.nodes, x.vs, true⟩ = x.now := rfl
      unfold prom
      rw [if_neg (by simp), hq, if_neg (by simp; omega), if_pos (.inr rfl)]
    have hp2 : prom ⟨x.nodes, x.vs, true⟩ x.now.pri (n + 1) = (120, ⟨x.nodes, x.vs, true⟩) := by
      have hq : Sv.now ⟨x.nodes, x.vs, true⟩ = x.now := rfl
      unfold prom
      rw [if_neg (by simp), hq, if_neg (by simp; omega), if_pos (.inl (by simp; omega))]
    have nin : h3.size ∉ b :: r.toList := by
      intro hm
      simp only [List.mem_cons, Option.mem_toList, Option.mem_def] at hm
      rcases hm with e | e
      · omega
      · have := hr3 _ e; omega
    simp (disch := first | omega | (simp only [newRow_size, Array.size_setIfInBounds, Array.size_push]; done) | (simp only [newRow_size, Array.size_setIfInBounds, Array.size_push]; omega)) [r3_23, e5, eqT, eqF, neT, neF, ltT, ltF, leT, leF, nltT, nltF, nleT, nleF, nneT, nneF, flipX, List.getElem?_cons_zero, List.getElem?_cons_succ]
    refine Ans.next (Promote_spec (F := F) (by omega) sv5 gd5 x.now.pri x.now.pri) ?_
    rw [hp1]
    rintro v6 h6 ⟨rfl, ⟨r6, sv6, _⟩, k6⟩
    have e6 := (k6.get (lt_of_get e5) nin).trans e5
    have hwn : IntKind.i64.wrap (n + 1) = n + 1 := wrap_id (by omega) (by omega)
    simp (disch := first | omega | (simp only [newRow_size, Array.size_setIfInBounds, Array.size_push]; done) | (simp only [newRow_size, Array.size_setIfInBounds, Array.size_push]; omega)) [r3_24, e6, hwn, eqT, eqF, neT, neF, ltT, ltF, leT, leF, nltT, nltF, nleT, nleF, nneT, nneF, flipX, List.getElem?_cons_zero, List.getElem?_cons_succ]
    refine Ans.next (Promote_spec (F := F) (by omega) sv6 gd5 x.now.pri (n + 1)) ?_
    rw [hp2]
    rintro v7 h7 ⟨rfl, ⟨r7, sv7, _⟩, k7⟩
    simp (disch := first | omega | (simp only [newRow_size, Array.size_setIfInBounds, Array.size_push]; done) | (simp only [newRow_size, Array.size_setIfInBounds, Array.size_push]; omega)) [r3_25, r3_27, hx401, eqT, eqF, neT, neF, ltT, ltF, leT, leF, nltT, nltF, nleT, nleF, nneT, nneF, flipX, List.getElem?_cons_zero, List.getElem?_cons_succ]
    refine Ans.next (All_spec (F := F) (by omega) sv7 (by simp [hx401])) ?_
    rintro v8 h8 ⟨q, rfl, e8, _, _⟩
    simp (disch := first | omega | (simp only [newRow_size, Array.size_setIfInBounds, Array.size_push]; done) | (simp only [newRow_size, Array.size_setIfInBounds, Array.size_push]; omega)) [hx401, eqT, eqF, neT, neF, ltT, ltF, leT, leF, nltT, nltF, nleT, nleF, nneT, nneF, flipX, List.getElem?_cons_zero, List.getElem?_cons_succ]
    exact Ans.of rfl

end Go.Proofs.Ytefbpobeclkbhaa
