/- ViewOfNothing: a nil service and a zero one. -/
import Derived.Test.YtefbpobeclkbhaaVc2
set_option linter.unusedSimpArgs false
set_option linter.unusedVariables false
namespace Go.Proofs.Ytefbpobeclkbhaa
open Go.Ev

def zeroSv : Sv := ⟨0, [], false⟩

theorem Promote_nil {F : Nat} (hF : 1 ≤ F) (h : H) (p q : Int) : cf F 15 [.pointer none, .int .i64 p, .int .i64 q] h = some (.int .i64 121, h) := by
  obtain ⟨F, rfl⟩ : ∃ G, F = G + 1 := ⟨F - 1, by omega⟩
  rw [cf_step (a := a15) rfl rfl (by simp [a15])]
  simp (disch := first | omega | (simp only [newRow_size, Array.size_setIfInBounds, Array.size_push]; done) | (simp only [newRow_size, Array.size_setIfInBounds, Array.size_push]; omega)) [a15, r15_0, r15_1, r15_2, eqT, eqF, neT, neF, ltT, ltF, leT, leF, nltT, nltF, nleT, nleF, nneT, nneF, flipX, List.getElem?_cons_zero, List.getElem?_cons_succ]
theorem Settle_nil {F : Nat} (hF : 1 ≤ F) (h : H) (p q : Int) : cf F 14 [.pointer none, .int .i64 p, .int .i64 q] h = some (.int .i64 120, h) := by
  obtain ⟨F, rfl⟩ : ∃ G, F = G + 1 := ⟨F - 1, by omega⟩
  rw [cf_step (a := a14) rfl rfl (by simp [a14])]
  simp (disch := first | omega | (simp only [newRow_size, Array.size_setIfInBounds, Array.size_push]; done) | (simp only [newRow_size, Array.size_setIfInBounds, Array.size_push]; omega)) [a14, r14_0, r14_1, r14_2, eqT, eqF, neT, neF, ltT, ltF, leT, leF, nltT, nltF, nleT, nleF, nneT, nneF, flipX, List.getElem?_cons_zero, List.getElem?_cons_succ]
theorem Settled_nil {F : Nat} (hF : 1 ≤ F) (h : H) : cf F 18 [.pointer none] h = some (.bool false, h) := by
  obtain ⟨F, rfl⟩ : ∃ G, F = G + 1 := ⟨F - 1, by omega⟩
  rw [cf_step (a := a18) rfl rfl (by simp [a18])]
  simp (disch := first | omega | (simp only [newRow_size, Array.size_setIfInBounds, Array.size_push]; done) | (simp only [newRow_size, Array.size_setIfInBounds, Array.size_push]; omega)) [a18, r18_0, r18_1, r18_2, eqT, eqF, neT, neF, ltT, ltF, leT, leF, nltT, nltF, nleT, nleF, nneT, nneF, flipX, List.getElem?_cons_zero, List.getElem?_cons_succ]
theorem All_nil {F : Nat} (hF : 1 ≤ F) (h : H) : cf F 16 [.pointer none] h = some (.slice none 0 0, h) := by
  obtain ⟨F, rfl⟩ : ∃ G, F = G + 1 := ⟨F - 1, by omega⟩
  rw [cf_step (a := a16) rfl rfl (by simp [a16])]
  simp (disch := first | omega | (simp only [newRow_size, Array.size_setIfInBounds, Array.size_push]; done) | (simp only [newRow_size, Array.size_setIfInBounds, Array.size_push]; omega)) [a16, r16_0, r16_1, r16_2, eqT, eqF, neT, neF, ltT, ltF, leT, leF, nltT, nltF, nleT, nleF, nneT, nneF, flipX, List.getElem?_cons_zero, List.getElem?_cons_succ]
theorem Now_nil {F : Nat} (hF : 1 ≤ F) (h : H) : cf F 13 [.pointer none] h = some (Vw.zero.val, h.push (.cells Vw.zero.cells 0 true [])) := by
  obtain ⟨F, rfl⟩ : ∃ G, F = G + 1 := ⟨F - 1, by omega⟩
  rw [cf_step (a := a13) rfl rfl (by simp [a13])]
  simp (disch := first | omega | (simp only [newRow_size, Array.size_setIfInBounds, Array.size_push]; done) | (simp only [newRow_size, Array.size_setIfInBounds, Array.size_push]; omega)) [a13, r13_0, r13_1, r13_2, eqT, eqF, neT, neF, ltT, ltF, leT, leF, nltT, nltF, nleT, nleF, nneT, nneF, flipX, List.getElem?_cons_zero, List.getElem?_cons_succ, Vw.val, Vw.zero, Vw.cells]

theorem Take_nil {F : Nat} (hF : 3 ≤ F) (h : H) (fr kind num : Int) (rest : List Value) (hr : rest.length = 19) :
    Ans (cf F 19 [.pointer none, .int .i64 fr, .agg ⟨.int .i64 kind :: .int .i64 num :: rest⟩] h) fun v h' => v = .slice none 0 0 ∧ Kept h h' [] := by
  obtain ⟨F, rfl⟩ : ∃ G, F = G + 1 := ⟨F - 1, by omega⟩
  have hd := duties_in (F := F) (by omega)
  rw [cf_step (a := a19) rfl rfl (by simp [a19])]
  by_cases c1 : kind = 21
  · simp (disch := first | omega | (simp only [newRow_size, Array.size_setIfInBounds, Array.size_push]; done) | (simp only [newRow_size, Array.size_setIfInBounds, Array.size_push]; omega)) [a19, r19_0, d19_1, hd, eqT, eqF, neT, neF, ltT, ltF, leT, leF, nltT, nltF, nleT, nleF, nneT, nneF, flipX, List.getElem?_cons_zero, List.getElem?_cons_succ, dk_go, chks_nil, chks_cons, chkA_nil, chkA_cons, chk1_no, chk1_yes, chkV_some, hAt_eq, hOf_some, hOf_none, sameV, sameL, sameCell, r19_2, r19_3, r19_4]
    obtain ⟨F, rfl⟩ : ∃ G, F = G + 1 := ⟨F - 1, by omega⟩
    rw [cf_step (a := a42) rfl rfl (by simp [a42])]
    simp (disch := first | omega | (simp only [newRow_size, Array.size_setIfInBounds, Array.size_push]; done) | (simp only [newRow_size, Array.size_setIfInBounds, Array.size_push]; omega)) [a42, r42_0, r42_1, r42_2, r42_3, eqT, eqF, neT, neF, ltT, ltF, leT, leF, nltT, nltF, nleT, nleF, nneT, nneF, flipX, List.getElem?_cons_zero, List.getElem?_cons_succ, Now_nil (F := F) (by omega), Vw.val, Vw.zero, Vw.cells]
    refine Ans.of ⟨rfl, (by first | omega | (simp only [newRow_size, Array.size_setIfInBounds, Array.size_push]; done) | (simp only [newRow_size, Array.size_setIfInBounds, Array.size_push]; omega)), fun c hc _ => ?_⟩
    simp (disch := first | omega | (simp only [newRow_size, Array.size_setIfInBounds, Array.size_push]; done) | (simp only [newRow_size, Array.size_setIfInBounds, Array.size_push]; omega)) []
  by_cases c2 : kind = 23
  · simp (disch := first | omega | (simp only [newRow_size, Array.size_setIfInBounds, Array.size_push]; done) | (simp only [newRow_size, Array.size_setIfInBounds, Array.size_push]; omega)) [a19, r19_0, d19_1, hd, eqT, eqF, neT, neF, ltT, ltF, leT, leF, nltT, nltF, nleT, nleF, nneT, nneF, flipX, List.getElem?_cons_zero, List.getElem?_cons_succ, dk_go, chks_nil, chks_cons, chkA_nil, chkA_cons, chk1_no, chk1_yes, chkV_some, hAt_eq, hOf_some, hOf_none, sameV, sameL, sameCell, r19_2, r19_3, r19_4]
    obtain ⟨F, rfl⟩ : ∃ G, F = G + 1 := ⟨F - 1, by omega⟩
    rw [cf_step (a := a43) rfl rfl (by simp [a43])]
    simp (disch := first | omega | (simp only [newRow_size, Array.size_setIfInBounds, Array.size_push]; done) | (simp only [newRow_size, Array.size_setIfInBounds, Array.size_push]; omega)) [a43, r43_0, r43_1, r43_2, eqT, eqF, neT, neF, ltT, ltF, leT, leF, nltT, nltF, nleT, nleF, nneT, nneF, flipX, List.getElem?_cons_zero, List.getElem?_cons_succ, Settle_nil (F := F) (by omega)]
    refine Ans.of ⟨rfl, (by first | omega | (simp only [newRow_size, Array.size_setIfInBounds, Array.size_push]; done) | (simp only [newRow_size, Array.size_setIfInBounds, Array.size_push]; omega)), fun c hc _ => ?_⟩
    simp (disch := first | omega | (simp only [newRow_size, Array.size_setIfInBounds, Array.size_push]; done) | (simp only [newRow_size, Array.size_setIfInBounds, Array.size_push]; omega)) []
  · simp (disch := first | omega | (simp only [newRow_size, Array.size_setIfInBounds, Array.size_push]; done) | (simp only [newRow_size, Array.size_setIfInBounds, Array.size_push]; omega)) [a19, r19_0, d19_1, hd, eqT, eqF, neT, neF, ltT, ltF, leT, leF, nltT, nltF, nleT, nleF, nneT, nneF, flipX, List.getElem?_cons_zero, List.getElem?_cons_succ, dk_go, chks_nil, chks_cons, chkA_nil, chkA_cons, chk1_no, chk1_yes, chkV_some, hAt_eq, hOf_some, hOf_none, sameV, sameL, sameCell, r19_2, r19_3, r19_4]
    refine Ans.of ⟨rfl, (by first | omega | (simp only [newRow_size, Array.size_setIfInBounds, Array.size_push]; done) | (simp only [newRow_size, Array.size_setIfInBounds, Array.size_push]; omega)), fun c hc _ => ?_⟩
    simp (disch := first | omega | (simp only [newRow_size, Array.size_setIfInBounds, Array.size_push]; done) | (simp only [newRow_size, Array.size_setIfInBounds, Array.size_push]; omega)) []

theorem prom_zero (p q : Int) : prom zeroSv p q = (121, zeroSv) := by simp [prom, zeroSv]
theorem setl_zero (p q : Int) : setl zeroSv p q = (120, zeroSv) := by simp [setl, zeroSv, Sv.now, Vw.zero]
theorem takeM_zero (p q r : Int) : takeM zeroSv p q r = (zeroSv, none) := by
  unfold takeM
  rw [setl_zero]
  simp [zeroSv, Sv.now, Vw.zero]

theorem actM_zero (a : Act) : actM zeroSv a = zeroSv := by
  unfold actM
  rw [prom_zero, setl_zero, takeM_zero]
  simp

theorem good_zero : Good zeroSv := Good.zero

theorem rPromote_zero {F : Nat} (hF : 2 ≤ F) (h : H) (p q : Int) :
    Ans (cf F 34 [RV none zeroSv, .int .i64 p, .int .i64 q] h) fun v h' => v = .tuple ⟨[RV none zeroSv, .int .i64 121]⟩ ∧ Kept h h' [] := by
  obtain ⟨F, rfl⟩ : ∃ G, F = G + 1 := ⟨F - 1, by omega⟩
  rw [cf_step (a := a34) rfl rfl (by simp [a34])]
  simp (disch := first | omega | (simp only [newRow_size, Array.size_setIfInBounds, Array.size_push]; done) | (simp only [newRow_size, Array.size_setIfInBounds, Array.size_push]; omega)) [a34, r34_0, r34_1, RV, eqT, eqF, neT, neF, ltT, ltF, leT, leF, nltT, nltF, nleT, nleF, nneT, nneF, flipX, List.getElem?_cons_zero, List.getElem?_cons_succ, zeroSv]
  refine Ans.next (rNow_spec (F := F) (r := none) (x := zeroSv) (by omega) (by exact rfl) (by simp [zeroSv])) ?_
  rintro v h1 ⟨rfl, k1⟩
  have z1 := k1.1
  simp at z1
  have g1 := fun c => k1.get (b := c)
  simp only [List.not_mem_nil, not_false_eq_true, forall_const, newRow_size] at g1
  simp (disch := first | omega | (simp only [newRow_size, Array.size_setIfInBounds, Array.size_push]; done) | (simp only [newRow_size, Array.size_setIfInBounds, Array.size_push]; omega)) [Vw.val, Vw.cells, r34_2, r34_3, eqT, eqF, neT, neF, ltT, ltF, leT, leF, nltT, nltF, nleT, nleF, nneT, nneF, flipX, List.getElem?_cons_zero, List.getElem?_cons_succ, g1]
  refine Ans.of ⟨rfl, (by first | omega | (simp only [newRow_size, Array.size_setIfInBounds, Array.size_push]; done) | (simp only [newRow_size, Array.size_setIfInBounds, Array.size_push]; omega)), fun c hc _ => ?_⟩
  simp (disch := first | omega | (simp only [newRow_size, Array.size_setIfInBounds, Array.size_push]; done) | (simp only [newRow_size, Array.size_setIfInBounds, Array.size_push]; omega)) [g1]

theorem stands_nil {F : Nat} (hF : 1003 ≤ F) (h : H) : Ans (cf F 22 [.pointer none, RV none zeroSv] h) fun v h' => v = .bool true ∧ Kept h h' [] := by
  obtain ⟨F, rfl⟩ : ∃ G, F = G + 1 := ⟨F - 1, by omega⟩
  rw [cf_step (a := a22) rfl rfl (by simp [a22])]
  have hs : VsAt h none zeroSv.vs := rfl
  simp (disch := first | omega | (simp only [newRow_size, Array.size_setIfInBounds, Array.size_push]; done) | (simp only [newRow_size, Array.size_setIfInBounds, Array.size_push]; omega)) [a22, r22_0, r22_1, RV, All_nil (F := F) (by omega), d22_2, Now_nil (F := F) (by omega), zeroSv]
  refine Ans.nextD (rNow_spec (F := F) (r := none) (x := zeroSv) (by omega) (by exact rfl) (by simp [zeroSv])) ?_
  rintro v h3 ⟨rfl, k3⟩
  have g3 := fun c => k3.get (b := c)
  have y3 := k3.1
  simp only [List.not_mem_nil, not_false_eq_true, forall_const, newRow_size, Array.size_push] at g3 y3
  have hnow : zeroSv.now = Vw.zero := rfl
  have hsv := sameViews_spec (F := F) (by omega) (h := h3) (v := .slice none 0 0) (w := .slice none 0 0) (vs := []) (.inl ⟨rfl, rfl⟩) (.inl ⟨rfl, rfl⟩) (by simp)
  simp (disch := first | omega | (simp only [newRow_size, Array.size_setIfInBounds, Array.size_push]; done) | (simp only [newRow_size, Array.size_setIfInBounds, Array.size_push]; omega)) [g3, eqT, eqF, neT, neF, ltT, ltF, leT, leF, nltT, nltF, nleT, nleF, nneT, nneF, flipX, List.getElem?_cons_zero, List.getElem?_cons_succ, dk_go, chks_nil, chks_cons, chkA_nil, chkA_cons, chk1_no, chk1_yes, chkV_some, hAt_eq, hOf_some, hOf_none, sameV, sameL, sameCell, Vw.val, Vw.cells, Vw.zero, hnow, Settled_nil (F := F) (by omega), hsv]
  refine Ans.of ⟨rfl, (by first | omega | (simp only [newRow_size, Array.size_setIfInBounds, Array.size_push]; done) | (simp only [newRow_size, Array.size_setIfInBounds, Array.size_push]; omega)), fun c hc _ => ?_⟩
  simp (disch := first | omega | (simp only [newRow_size, Array.size_setIfInBounds, Array.size_push]; done) | (simp only [newRow_size, Array.size_setIfInBounds, Array.size_push]; omega)) [g3]

theorem played_nil {F : Nat} (hF : 1003 ≤ F) (h : H) {a : Act} (ok : a.Ok) :
    Ans (cf F 23 [.pointer none, RV none zeroSv, a.val] h) fun v h' => v = .tuple ⟨[RV none zeroSv, .bool true]⟩ ∧ Kept h h' [] := by
  obtain ⟨F, rfl⟩ : ∃ G, F = G + 1 := ⟨F - 1, by omega⟩
  rw [cf_step (a := a23) rfl rfl (by simp [a23])]
  simp (disch := first | omega | (simp only [newRow_size, Array.size_setIfInBounds, Array.size_push]; done) | (simp only [newRow_size, Array.size_setIfInBounds, Array.size_push]; omega)) [a23, r23_0, d23_1, RV, eqT, eqF, neT, neF, ltT, ltF, leT, leF, nltT, nltF, nleT, nleF, nneT, nneF, flipX, List.getElem?_cons_zero, List.getElem?_cons_succ, Act.val, Act.cells, zeroSv]
  refine Ans.nextD (rNow_spec (F := F) (r := none) (x := zeroSv) (by omega) (by exact rfl) (by simp [zeroSv])) ?_
  rintro v h1 ⟨rfl, k1⟩
  have g1 := fun c => k1.get (b := c)
  have y1 := k1.1
  simp only [List.not_mem_nil, not_false_eq_true, forall_const, newRow_size] at g1 y1
  have oo := ok
  obtain ⟨al, ao, asm⟩ := ok
  simp (disch := first | omega | (simp only [newRow_size, Array.size_setIfInBounds, Array.size_push]; done) | (simp only [newRow_size, Array.size_setIfInBounds, Array.size_push]; omega)) [g1, eqT, eqF, neT, neF, ltT, ltF, leT, leF, nltT, nltF, nleT, nleF, nneT, nneF, flipX, List.getElem?_cons_zero, List.getElem?_cons_succ, al, List.take_of_length_le]
  have hw := whole_spec (F := F) (by omega) h1 zeroSv.now oo
  simp only [Act.val, Act.cells] at hw
  refine Ans.nextD hw ?_
  rintro v h2 ⟨rfl, k2⟩
  have g2 := fun c => k2.get (b := c)
  have y2 := k2.1
  simp only [List.not_mem_nil, not_false_eq_true, forall_const] at g2
  obtain ⟨wl, wo, ws⟩ := wholeM_ok zeroSv.now oo
  generalize wholeM zeroSv.now a = w at wl wo ⊢
  simp (disch := first | omega | (simp only [newRow_size, Array.size_setIfInBounds, Array.size_push]; done) | (simp only [newRow_size, Array.size_setIfInBounds, Array.size_push]; omega)) [g1, g2, eqT, eqF, neT, neF, ltT, ltF, leT, leF, nltT, nltF, nleT, nleF, nneT, nneF, flipX, List.getElem?_cons_zero, List.getElem?_cons_succ, dk_go, chks_nil, chks_cons, chkA_nil, chkA_cons, chk1_no, chk1_yes, chkV_some, hAt_eq, hOf_some, hOf_none, sameV, sameL, sameCell, al, wl, wo, asm, List.take_of_length_le, List.drop_eq_nil_of_le, r23_2, Act.val, Act.cells]
  obtain ⟨E, hE⟩ : ∃ E, E = Array.setIfInBounds h2 (h.size + 1) (.cells (Value.int .i64 w.k :: .int .i64 w.a :: .int .i64 w.b :: .int .i64 w.nk :: .int .i64 w.nn :: w.rest) 0 true []) := ⟨_, rfl⟩
  rw [← hE]
  have e0 : hget E h.size = some (.cells [.int .i64 0, .slice none 0 0, .bool false] 0 true []) := by rw [hE]; simp (disch := first | omega | (simp only [newRow_size, Array.size_setIfInBounds, Array.size_push]; done) | (simp only [newRow_size, Array.size_setIfInBounds, Array.size_push]; omega)) [g1, g2]
  have e1 : hget E (h.size + 1) = some (.cells (Value.int .i64 w.k :: .int .i64 w.a :: .int .i64 w.b :: .int .i64 w.nk :: .int .i64 w.nn :: w.rest) 0 true []) := by rw [hE]; simp (disch := first | omega | (simp only [newRow_size, Array.size_setIfInBounds, Array.size_push]; done) | (simp only [newRow_size, Array.size_setIfInBounds, Array.size_push]; omega)) []
  have e2 : hget E (h.size + 2) = some (.cells [.int .i64 0, .slice none 0 0, .bool false] 0 true []) := by rw [hE]; simp (disch := first | omega | (simp only [newRow_size, Array.size_setIfInBounds, Array.size_push]; done) | (simp only [newRow_size, Array.size_setIfInBounds, Array.size_push]; omega)) [g1, g2]
  have kE : Kept h E [] := by rw [hE]; exact ⟨(by first | omega | (simp only [newRow_size, Array.size_setIfInBounds, Array.size_push]; done) | (simp only [newRow_size, Array.size_setIfInBounds, Array.size_push]; omega)), fun c hc _ => by simp (disch := first | omega | (simp only [newRow_size, Array.size_setIfInBounds, Array.size_push]; done) | (simp only [newRow_size, Array.size_setIfInBounds, Array.size_push]; omega)) [g1, g2]⟩
  have yE : E.size = h2.size := by rw [hE]; simp
  clear hE k1 g1 k2 g2
  have hs := setl_zero
  have ht := takeM_zero
  have z0 : Value.agg ⟨[.int .i64 0, .slice none 0 0, .bool false]⟩ = RV none zeroSv := rfl
  by_cases c1 : w.k = 1
  · simp (disch := first | omega | (simp only [newRow_size, Array.size_setIfInBounds, Array.size_push]; done) | (simp only [newRow_size, Array.size_setIfInBounds, Array.size_push]; omega)) [r23_3, r23_4, eqT, eqF, neT, neF, ltT, ltF, leT, leF, nltT, nltF, nleT, nleF, nneT, nneF, flipX, List.getElem?_cons_zero, List.getElem?_cons_succ, e0, e1, e2, Promote_nil (F := F) (by omega), r23_5]
    refine Ans.next (rPromote_zero (F := F) (by omega) E w.a w.b) ?_
    rintro v h4 ⟨rfl, k4⟩
    have y4 := k4.1
    have g4 := fun c => k4.get (b := c)
    simp only [List.not_mem_nil, not_false_eq_true, forall_const] at g4
    simp (disch := first | omega | (simp only [newRow_size, Array.size_setIfInBounds, Array.size_push]; done) | (simp only [newRow_size, Array.size_setIfInBounds, Array.size_push]; omega)) [r23_6, eqT, eqF, neT, neF, ltT, ltF, leT, leF, nltT, nltF, nleT, nleF, nneT, nneF, flipX, List.getElem?_cons_zero, List.getElem?_cons_succ, RV, g4, e0, e1, e2, zeroSv]
    refine Ans.of ⟨rfl, (by first | omega | (simp only [newRow_size, Array.size_setIfInBounds, Array.size_push]; done) | (simp only [newRow_size, Array.size_setIfInBounds, Array.size_push]; omega)), fun c hc _ => ?_⟩
    simp (disch := first | omega | (simp only [newRow_size, Array.size_setIfInBounds, Array.size_push]; done) | (simp only [newRow_size, Array.size_setIfInBounds, Array.size_push]; omega)) [g4]
    exact kE.get hc (by simp)
  by_cases c2 : w.k = 2
  · simp (disch := first | omega | (simp only [newRow_size, Array.size_setIfInBounds, Array.size_push]; done) | (simp only [newRow_size, Array.size_setIfInBounds, Array.size_push]; omega)) [r23_3, r23_7, r23_8, eqT, eqF, neT, neF, ltT, ltF, leT, leF, nltT, nltF, nleT, nleF, nneT, nneF, flipX, List.getElem?_cons_zero, List.getElem?_cons_succ, e0, e1, e2, Settle_nil (F := F) (by omega), r23_9]
    have hq := rSettle_spec (F := F) (h := E) (r := none) (x := zeroSv) (by omega) rfl good_zero w.a w.b
    rw [hs] at hq
    refine Ans.next hq ?_
    rintro v h4 ⟨rfl, k4⟩
    have y4 := k4.1
    have g4 := fun c => k4.get (b := c)
    simp only [List.not_mem_nil, not_false_eq_true, forall_const] at g4
    simp (disch := first | omega | (simp only [newRow_size, Array.size_setIfInBounds, Array.size_push]; done) | (simp only [newRow_size, Array.size_setIfInBounds, Array.size_push]; omega)) [r23_10, eqT, eqF, neT, neF, ltT, ltF, leT, leF, nltT, nltF, nleT, nleF, nneT, nneF, flipX, List.getElem?_cons_zero, List.getElem?_cons_succ, RV, g4, e0, e1, e2, zeroSv]
    refine Ans.of ⟨rfl, (by first | omega | (simp only [newRow_size, Array.size_setIfInBounds, Array.size_push]; done) | (simp only [newRow_size, Array.size_setIfInBounds, Array.size_push]; omega)), fun c hc _ => ?_⟩
    simp (disch := first | omega | (simp only [newRow_size, Array.size_setIfInBounds, Array.size_push]; done) | (simp only [newRow_size, Array.size_setIfInBounds, Array.size_push]; omega)) [g4]
    exact kE.get hc (by simp)
  by_cases c3 : w.k = 3
  · simp (disch := first | omega | (simp only [newRow_size, Array.size_setIfInBounds, Array.size_push]; done) | (simp only [newRow_size, Array.size_setIfInBounds, Array.size_push]; omega)) [r23_3, r23_7, r23_11, r23_12, eqT, eqF, neT, neF, ltT, ltF, leT, leF, nltT, nltF, nleT, nleF, nneT, nneF, flipX, List.getElem?_cons_zero, List.getElem?_cons_succ, e0, e1, e2, wl, List.take_of_length_le]
    refine Ans.next (Take_nil (F := F) (by omega) E w.a w.nk w.nn w.rest wl) ?_
    rintro v h3 ⟨rfl, k3⟩
    have y3 := k3.1
    have g3 := fun c => k3.get (b := c)
    simp only [List.not_mem_nil, not_false_eq_true, forall_const] at g3
    simp (disch := first | omega | (simp only [newRow_size, Array.size_setIfInBounds, Array.size_push]; done) | (simp only [newRow_size, Array.size_setIfInBounds, Array.size_push]; omega)) [r23_13, eqT, eqF, neT, neF, ltT, ltF, leT, leF, nltT, nltF, nleT, nleF, nneT, nneF, flipX, List.getElem?_cons_zero, List.getElem?_cons_succ, g3, e0, e1, e2, wl, List.take_of_length_le]
    have hq := rTake_spec (F := F) (h := h3) (r := none) (x := zeroSv) (by omega) rfl good_zero w.a w.nk w.nn w.rest wl
    unfold rTakePost at hq
    simp only [ht] at hq
    refine Ans.next hq ?_
    rintro v4 h4 ⟨q4, s4, rfl, n4, z4, k4⟩
    have n4' : s4 = .slice none 0 0 := n4
    subst n4'
    have y4 := k4.1
    have g4 := fun c => k4.get (b := c)
    simp only [List.not_mem_nil, not_false_eq_true, forall_const] at g4
    simp (disch := first | omega | (simp only [newRow_size, Array.size_setIfInBounds, Array.size_push]; done) | (simp only [newRow_size, Array.size_setIfInBounds, Array.size_push]; omega)) [d23_14, eqT, eqF, neT, neF, ltT, ltF, leT, leF, nltT, nltF, nleT, nleF, nneT, nneF, flipX, List.getElem?_cons_zero, List.getElem?_cons_succ, RV, g4, g3, e0, e1, e2, zeroSv]
    refine Ans.nextD (sameNotes_spec (F := F) (o := none) (q1 := 0) (q2 := 0) (by omega) (by exact rfl) (by exact rfl)) ?_
    rintro u h5 ⟨rfl, k5⟩
    have y5 := k5.1
    have g5 := fun c => k5.get (b := c)
    simp only [List.not_mem_nil, not_false_eq_true, forall_const, newRow_size] at g5 y5
    simp (disch := first | omega | (simp only [newRow_size, Array.size_setIfInBounds, Array.size_push]; done) | (simp only [newRow_size, Array.size_setIfInBounds, Array.size_push]; omega)) [eqT, eqF, neT, neF, ltT, ltF, leT, leF, nltT, nltF, nleT, nleF, nneT, nneF, flipX, List.getElem?_cons_zero, List.getElem?_cons_succ, dk_go, chks_nil, chks_cons, chkA_nil, chkA_cons, chk1_no, chk1_yes, chkV_some, hAt_eq, hOf_some, hOf_none, sameV, sameL, sameCell, g5, g4, g3, e0, e1, e2]
    refine Ans.of ⟨rfl, (by first | omega | (simp only [newRow_size, Array.size_setIfInBounds, Array.size_push]; done) | (simp only [newRow_size, Array.size_setIfInBounds, Array.size_push]; omega)), fun c hc _ => ?_⟩
    simp (disch := first | omega | (simp only [newRow_size, Array.size_setIfInBounds, Array.size_push]; done) | (simp only [newRow_size, Array.size_setIfInBounds, Array.size_push]; omega)) [g5, g4, g3]
    exact kE.get hc (by simp)
  · simp (disch := first | omega | (simp only [newRow_size, Array.size_setIfInBounds, Array.size_push]; done) | (simp only [newRow_size, Array.size_setIfInBounds, Array.size_push]; omega)) [r23_3, r23_7, r23_11, r23_15, eqT, eqF, neT, neF, ltT, ltF, leT, leF, nltT, nltF, nleT, nleF, nneT, nneF, flipX, List.getElem?_cons_zero, List.getElem?_cons_succ, e0, e1, e2]
    refine Ans.of ⟨rfl, (by first | omega | (simp only [newRow_size, Array.size_setIfInBounds, Array.size_push]; done) | (simp only [newRow_size, Array.size_setIfInBounds, Array.size_push]; omega)), fun c hc _ => ?_⟩
    simp (disch := first | omega | (simp only [newRow_size, Array.size_setIfInBounds, Array.size_push]; done) | (simp only [newRow_size, Array.size_setIfInBounds, Array.size_push]; omega)) []
    exact kE.get hc (by simp)

set_option maxHeartbeats 1000000 in
theorem nothing_spec {F : Nat} (hF : 1010 ≤ F) {h : H} {v : Value} {acts : List Act} (sc : ScAt h.size h v acts) :
    Ans (cf F 8 [v] h) fun v h' => v = .bool true := by
  obtain ⟨F, rfl⟩ : ∃ G, F = G + 1 := ⟨F - 1, by omega⟩
  rw [cf_step (a := a8) rfl rfl (by simp [a8])]
  simp (disch := first | omega | (simp only [newRow_size, Array.size_setIfInBounds, Array.size_push]; done) | (simp only [newRow_size, Array.size_setIfInBounds, Array.size_push]; omega)) [a8, r8_0, r8_1]
  refine Ans.next (begins_spec (F := F) (by omega) h) ?_
  rintro v1 h1 ⟨rfl, k1⟩
  have y1 := k1.1
  simp (disch := first | omega | (simp only [newRow_size, Array.size_setIfInBounds, Array.size_push]; done) | (simp only [newRow_size, Array.size_setIfInBounds, Array.size_push]; omega)) [r8_2, r8_4, r8_5, r8_6, r8_7, eqT, eqF, neT, neF, ltT, ltF, leT, leF, nltT, nltF, nleT, nleF, nneT, nneF, flipX, List.getElem?_cons_zero, List.getElem?_cons_succ]
  have bo : Both h.size (Ev.newRow (Ev.newRow h1 [.int .i32 0, .int .u32 0, .int .i64 0, .slice none 0 0, .bool false] 0 []) [.int .i64 0, .slice none 0 0, .bool false] 0 []) h1.size (h1.size + 1) none none zeroSv := by
    refine ⟨⟨⟨by simp (disch := first | omega | (simp only [newRow_size, Array.size_setIfInBounds, Array.size_push]; done) | (simp only [newRow_size, Array.size_setIfInBounds, Array.size_push]; omega)) [scells, zeroSv], rfl, by simp⟩, rfl, by simp, by simp⟩, good_zero, by simp (disch := first | omega | (simp only [newRow_size, Array.size_setIfInBounds, Array.size_push]; done) | (simp only [newRow_size, Array.size_setIfInBounds, Array.size_push]; omega)) [zeroSv], by omega, by omega, by omega, by simp, by simp⟩
  have sc1 : ScAt h.size (Ev.newRow (Ev.newRow h1 [.int .i32 0, .int .u32 0, .int .i64 0, .slice none 0 0, .bool false] 0 []) [.int .i64 0, .slice none 0 0, .bool false] 0 []) v acts :=
    (sc.kept k1 (by simp)).kept ⟨(by first | omega | (simp only [newRow_size, Array.size_setIfInBounds, Array.size_push]; done) | (simp only [newRow_size, Array.size_setIfInBounds, Array.size_push]; omega)), fun c hc _ => by simp (disch := first | omega | (simp only [newRow_size, Array.size_setIfInBounds, Array.size_push]; done) | (simp only [newRow_size, Array.size_setIfInBounds, Array.size_push]; omega)) []⟩ (L := []) (by simp)
  generalize Ev.newRow (Ev.newRow h1 [.int .i32 0, .int .u32 0, .int .i64 0, .slice none 0 0, .bool false] 0 []) [.int .i64 0, .slice none 0 0, .bool false] 0 [] = h2 at bo sc1 ⊢
  generalize h1.size = b at bo ⊢
  refine loop_rule (fun m s g => ∃ (i : Nat) (r : Option Nat), m = 1000 - i ∧ i ≤ 40 ∧ s = [(0, v), (4, .pointer none), (5, .pointer (some ⟨b, 0, none⟩)), (6, .pointer (some ⟨b + 1, 0, none⟩)), (7, .int .i64 i)] ∧ Both h.size g b (b + 1) r none zeroSv ∧ ScAt h.size g v acts) ?_ _ 1000 _ _ (by omega) ⟨0, none, rfl, by omega, rfl, bo, sc1⟩
  clear bo sc1 sc
  rintro m s g again ⟨i, r, rfl, hi, rfl, bo, sc⟩ ih
  have hl := sc.len
  have hbx := bo.box
  simp only [zeroSv, sl_none] at hbx
  have hw : IntKind.i64.wrap ((i : Int) + 1) = ((i + 1 : Nat) : Int) := by rw [IntKind.wrap_i64]; omega
  have hend : Ans (evR (cf F) r8_15 [(0, v), (4, .pointer none), (5, .pointer (some ⟨b, 0, none⟩)), (6, .pointer (some ⟨b + 1, 0, none⟩)), (7, .int .i64 i), (25, .bool false)] g (evC F (cf F) ACode.ret (endK (cfX XD) [ARes.tmp 2]) noK (endK (cfX XD) [ARes.tmp 2])) [2] []) fun v h' => v = .bool true := by
    simp (disch := first | omega | (simp only [newRow_size, Array.size_setIfInBounds, Array.size_push]; done) | (simp only [newRow_size, Array.size_setIfInBounds, Array.size_push]; omega)) [r8_15, hbx, eqT, eqF, neT, neF, ltT, ltF, leT, leF, nltT, nltF, nleT, nleF, nneT, nneF, flipX, List.getElem?_cons_zero, List.getElem?_cons_succ]
    have hs := stands_nil (F := F) (by omega) g
    simp only [RV, zeroSv, sl_none] at hs
    refine Ans.next hs ?_
    rintro v8 h8 ⟨rfl, k8⟩
    have bo8 := bo.frame k8
    have hbx8 := bo8.box
    simp only [zeroSv, sl_none] at hbx8
    simp (disch := first | omega | (simp only [newRow_size, Array.size_setIfInBounds, Array.size_push]; done) | (simp only [newRow_size, Array.size_setIfInBounds, Array.size_push]; omega)) [hbx8, eqT, eqF, neT, neF, ltT, ltF, leT, leF, nltT, nltF, nleT, nleF, nneT, nneF, flipX, List.getElem?_cons_zero, List.getElem?_cons_succ]
    have hs := stands_spec (F := F) (by omega) bo8.s.p bo8.s.d (by simp [zeroSv])
    simp only [RV, zeroSv, sl_none] at hs
    refine Ans.next hs ?_
    rintro v9 h9 ⟨rfl, k9⟩
    simp (disch := first | omega | (simp only [newRow_size, Array.size_setIfInBounds, Array.size_push]; done) | (simp only [newRow_size, Array.size_setIfInBounds, Array.size_push]; omega)) []
    exact Ans.of rfl
  by_cases hlt : i < acts.length ∧ i < 40
  · obtain ⟨hlt1, hlt2⟩ := hlt
    rcases sc with ⟨_, rfl⟩ | ⟨sb, so, cc, cs, es, lv, an, rfl, hN, hg, hi'⟩
    · simp at hlt1
    obtain ⟨a, ha⟩ : ∃ a, acts[i]? = some a := ⟨_, List.getElem?_eq_getElem hlt1⟩
    obtain ⟨q1, q2, ok⟩ := hi' i a ha
    have hgs := lt_of_get hg
    have hbs := bo.lt b (by simp [blocks])
    have hBs := bo.lt (b + 1) (by simp [blocks])
    simp (disch := first | omega | (simp only [newRow_size, Array.size_setIfInBounds, Array.size_push]; done) | (simp only [newRow_size, Array.size_setIfInBounds, Array.size_push]; omega)) [l8_14, r8_8, d8_9, hbx, hg, q1, eqT, eqF, neT, neF, ltT, ltF, leT, leF, nltT, nltF, nleT, nleF, nneT, nneF, flipX, List.getElem?_cons_zero, List.getElem?_cons_succ]
    have hp := played_nil (F := F) (by omega) (Ev.newRow g [.int .i64 0, .slice none 0 0, .bool false] 0 []) ok
    simp only [RV, Act.val, zeroSv, sl_none] at hp
    refine Ans.nextE hp ?_
    rintro v6 h6 ⟨rfl, k6⟩
    have y6 := k6.1
    have g6 := fun c => k6.get (b := c)
    simp only [List.not_mem_nil, not_false_eq_true, forall_const, newRow_size] at g6 y6
    simp (disch := first | omega | (simp only [newRow_size, Array.size_setIfInBounds, Array.size_push]; done) | (simp only [newRow_size, Array.size_setIfInBounds, Array.size_push]; omega)) [eqT, eqF, neT, neF, ltT, ltF, leT, leF, nltT, nltF, nleT, nleF, nneT, nneF, flipX, List.getElem?_cons_zero, List.getElem?_cons_succ, g6]
    have kE : Kept g (Array.setIfInBounds h6 g.size (.cells [.int .i64 0, .slice none 0 0, .bool false] 0 true [])) [] := ⟨(by first | omega | (simp only [newRow_size, Array.size_setIfInBounds, Array.size_push]; done) | (simp only [newRow_size, Array.size_setIfInBounds, Array.size_push]; omega)), fun c hc _ => by simp (disch := first | omega | (simp only [newRow_size, Array.size_setIfInBounds, Array.size_push]; done) | (simp only [newRow_size, Array.size_setIfInBounds, Array.size_push]; omega)) [g6]⟩
    have bo7 := bo.frame kE
    have sc7 : ScAt h.size _ (.slice (some ⟨sb, so, none⟩) acts.length cc) acts := ScAt.kept (.inr ⟨sb, so, cc, cs, es, lv, an, rfl, hN, hg, hi'⟩) kE (by simp)
    have hg7 := (kE.get hgs (by simp)).trans hg
    generalize Array.setIfInBounds h6 g.size (.cells [.int .i64 0, .slice none 0 0, .bool false] 0 true []) = h7 at kE bo7 sc7 hg7 ⊢
    have hbx7 := bo7.box
    simp only [zeroSv, sl_none] at hbx7
    have hgs7 := lt_of_get hg7
    have hbs7 := bo7.lt b (by simp [blocks])
    have hBs7 := bo7.lt (b + 1) (by simp [blocks])
    simp (disch := first | omega | (simp only [newRow_size, Array.size_setIfInBounds, Array.size_push]; done) | (simp only [newRow_size, Array.size_setIfInBounds, Array.size_push]; omega)) [d8_10, hbx7, hg7, q1, eqT, eqF, neT, neF, ltT, ltF, leT, leF, nltT, nltF, nleT, nleF, nneT, nneF, flipX, List.getElem?_cons_zero, List.getElem?_cons_succ]
    have bo8 := bo7.frame (row_kept h7 [.int .i64 0, .slice none 0 0, .bool false] 0 [])
    have hp := played_spec (F := F) (by omega) bo8.s bo8.g ok
    simp only [RV, Act.val, zeroSv, sl_none] at hp
    refine Ans.nextE hp ?_
    rintro v9 h9 ⟨r', r2', rfl, pr, f1, f2, k9⟩
    have y9 := k9.1
    simp only [newRow_size] at y9
    have hr7 := bo7.s.ltr
    have nin : ∀ c, c < h7.size + 1 → c ≠ b → r ≠ some c → c ∉ b :: r.toList := by
      intro c hc e1 e2 hm
      simp only [List.mem_cons, Option.mem_toList, Option.mem_def] at hm
      rcases hm with e | e
      · exact e1 e
      · exact e2 e
    have g9 := k9.get (b := h7.size) (by simp) (nin _ (by omega) (by omega) (fun e => by have := hr7 _ e; omega))
    rw [newRow_new rfl] at g9
    have ho := one_sl r2' (actM ⟨0, [], false⟩ a).vs.length
    simp only [oneCell] at ho
    simp (disch := first | omega | (simp only [newRow_size, Array.size_setIfInBounds, Array.size_push]; done) | (simp only [newRow_size, Array.size_setIfInBounds, Array.size_push]; omega)) [eqT, eqF, neT, neF, ltT, ltF, leT, leF, nltT, nltF, nleT, nleF, nneT, nneF, flipX, List.getElem?_cons_zero, List.getElem?_cons_succ, RV, g9, ho]
    have kF : ∀ y, Kept h9 (h9.setIfInBounds h7.size y) [h7.size] := fun y => ⟨(by first | omega | (simp only [newRow_size, Array.size_setIfInBounds, Array.size_push]; done) | (simp only [newRow_size, Array.size_setIfInBounds, Array.size_push]; omega)), fun c hc hn => by
      rw [List.mem_singleton] at hn
      simp (disch := first | omega | (simp only [newRow_size, Array.size_setIfInBounds, Array.size_push]; done) | (simp only [newRow_size, Array.size_setIfInBounds, Array.size_push]; omega)) []⟩
    have ea : actM ⟨0, [], false⟩ a = zeroSv := actM_zero a
    have hr' : ∀ q, r' = some q → h.size ≤ q ∧ q ≠ b + 1 ∧ q ≠ h7.size := by
      intro q e
      rcases f1 with e' | ⟨q', e', hq⟩
      · have h1 := bo.nr q (by rw [← e', e])
        have h2 := hr7 q (by rw [← e', e])
        exact ⟨h1.1, h1.2, by omega⟩
      · rw [e] at e'; cases e'
        simp only [newRow_size] at hq
        have := bo.nb
        omega
    have bo9 : ∀ y, Both h.size (h9.setIfInBounds h7.size y) b (b + 1) r' none zeroSv := by
      intro y
      have p := pr.p
      rw [ea] at p
      refine ⟨⟨p.kept (kF y) (by simp; omega) (fun q e => by simpa using (hr' q e).2.2), rfl, by simp, by simp⟩, good_zero, ?_, bo.nb, bo.nB, bo.ne, fun q e => ⟨(hr' q e).1, (hr' q e).2.1⟩, by simp⟩
      rw [(kF y).get (by omega) (by simp; omega), k9.get (by simp; omega) (nin _ (by omega) (by omega) (fun e => (bo.nr _ e).2 rfl))]
      exact bo8.box
    have sc9 : ∀ y, ScAt h.size (h9.setIfInBounds h7.size y) (.slice (some ⟨sb, so, none⟩) acts.length cc) acts := by
      intro y
      have hNh : h.size ≤ h7.size := by have := bo.nb; omega
      refine ((sc7.kept (row_kept _ _ _ _) (by simp)).kept k9 ?_).kept (kF y) ?_
      · intro q hq hm
        have := bo.nb
        simp only [List.mem_cons, Option.mem_toList, Option.mem_def] at hm
        rcases hm with e | e
        · omega
        · have := (bo.nr q e).1; omega
      · intro q hq hm
        rw [List.mem_singleton] at hm
        omega
    simp (disch := first | omega | (simp only [newRow_size, Array.size_setIfInBounds, Array.size_push]; done) | (simp only [newRow_size, Array.size_setIfInBounds, Array.size_push]; omega)) [r8_11, r8_13, hw, eqT, eqF, neT, neF, ltT, ltF, leT, leF, nltT, nltF, nleT, nleF, nneT, nneF, flipX, List.getElem?_cons_zero, List.getElem?_cons_succ]
    exact ih (1000 - (i + 1)) _ _ (by omega) ⟨i + 1, r', rfl, by omega, rfl, bo9 _, sc9 _⟩
  · by_cases hlt1 : i < acts.length
    · have : ¬ i < 40 := fun e => hlt ⟨hlt1, e⟩
      simp (disch := first | omega | (simp only [newRow_size, Array.size_setIfInBounds, Array.size_push]; done) | (simp only [newRow_size, Array.size_setIfInBounds, Array.size_push]; omega)) [l8_14, r8_8, hl, eqT, eqF, neT, neF, ltT, ltF, leT, leF, nltT, nltF, nleT, nleF, nneT, nneF, flipX, List.getElem?_cons_zero, List.getElem?_cons_succ]
      exact hend
    · simp (disch := first | omega | (simp only [newRow_size, Array.size_setIfInBounds, Array.size_push]; done) | (simp only [newRow_size, Array.size_setIfInBounds, Array.size_push]; omega)) [l8_14, r8_8, hl, eqT, eqF, neT, neF, ltT, ltF, leT, leF, nltT, nltF, nleT, nleF, nneT, nneF, flipX, List.getElem?_cons_zero, List.getElem?_cons_succ]
      exact hend

end Go.Proofs.Ytefbpobeclkbhaa
