/- The document's view service (the reference), over values. -/
import Derived.Test.YtefbpobeclkbhaaVb5
set_option linter.unusedSimpArgs false
set_option linter.unusedVariables false
namespace Go.Proofs.Ytefbpobeclkbhaa
open Go.Ev

def RV (r : Option Nat) (x : Sv) : Value := .agg ⟨[.int .i64 x.nodes, sl r x.vs.length, .bool x.st]⟩

theorem VsAt.frame {h h' : H} {r : Option Nat} {vs : List Vw} (v : VsAt h r vs) (k : Kept h h' []) : VsAt h' r vs := v.kept k (by simp)

theorem lenV_sl {h : H} {r : Option Nat} {vs : List Vw} (v : VsAt h r vs) : lenV (sl r vs.length) = some (.int .i64 vs.length) := by
  cases r with
  | none =>
    have e : vs = [] := v
    simp [e]
  | some r => simp
theorem one_sl (r : Option Nat) (n : Nat) : oneCell (sl r n) = true := by cases r <;> rfl

theorem rNow_spec {F : Nat} (hF : 1 ≤ F) {h : H} {r : Option Nat} {x : Sv} (s : VsAt h r x.vs) (hmax : x.vs.length ≤ 1000) :
    Ans (cf F 33 [RV r x] h) fun v h' => v = x.now.val ∧ Kept h h' [] := by
  obtain ⟨F, rfl⟩ : ∃ G, F = G + 1 := ⟨F - 1, by omega⟩
  rw [cf_step (a := a33) rfl rfl (by simp [a33])]
  by_cases hvs : x.vs = []
  · have hlen : sl r x.vs.length = .slice none 0 0 ∨ ∃ q, sl r x.vs.length = .slice (some ⟨q, 0, none⟩) 0 0 := by
      cases r <;> simp [hvs]
    have hn : x.now = Vw.zero := now_nil hvs
    rcases hlen with e | ⟨q, e⟩
    all_goals
      simp (disch := first | omega | (simp only [newRow_size, Array.size_setIfInBounds, Array.size_push]; done) | (simp only [newRow_size, Array.size_setIfInBounds, Array.size_push]; omega)) [a33, r33_0, r33_1, r33_2, RV, e, eqT, eqF, neT, neF, ltT, ltF, leT, leF, nltT, nltF, nleT, nleF, nneT, nneF, flipX, List.getElem?_cons_zero, List.getElem?_cons_succ]
      refine Ans.of ⟨?_, ?_, ?_⟩
      · rw [hn]; rfl
      · exact (by first | omega | (simp only [newRow_size, Array.size_setIfInBounds, Array.size_push]; done) | (simp only [newRow_size, Array.size_setIfInBounds, Array.size_push]; omega))
      · intro c hc _
        simp (disch := first | omega | (simp only [newRow_size, Array.size_setIfInBounds, Array.size_push]; done) | (simp only [newRow_size, Array.size_setIfInBounds, Array.size_push]; omega)) []
  · obtain ⟨us, e⟩ := now_last hvs
    obtain ⟨r, rfl⟩ : ∃ q, r = some q := by
      cases r with
      | none => exact absurd s hvs
      | some q => exact ⟨q, rfl⟩
    obtain ⟨an, hr⟩ := s
    have hrs := lt_of_get hr
    generalize x.now = v at e ⊢
    rw [e] at hr hmax
    have hl := vcs_length (us ++ [v])
    have hlast := vcs_last us v
    simp only [List.length_append, List.length_singleton] at hl hmax
    have hw : IntKind.i64.wrap (us.length : Int) = (us.length : Int) := by rw [IntKind.wrap_i64]; omega
    simp only [Vw.cells] at hlast
    simp (disch := first | omega | (simp only [newRow_size, Array.size_setIfInBounds, Array.size_push]; done) | (simp only [newRow_size, Array.size_setIfInBounds, Array.size_push]; omega)) [a33, r33_0, r33_1, r33_3, RV, e, hr, hl, eqT, eqF, neT, neF, ltT, ltF, leT, leF, nltT, nltF, nleT, nleF, nneT, nneF, flipX, List.getElem?_cons_zero, List.getElem?_cons_succ, hw, hlast]
    refine Ans.of ⟨rfl, (by first | omega | (simp only [newRow_size, Array.size_setIfInBounds, Array.size_push]; done) | (simp only [newRow_size, Array.size_setIfInBounds, Array.size_push]; omega)), ?_⟩
    · intro c hc _
      simp (disch := first | omega | (simp only [newRow_size, Array.size_setIfInBounds, Array.size_push]; done) | (simp only [newRow_size, Array.size_setIfInBounds, Array.size_push]; omega)) []

theorem rSettle_spec {F : Nat} (hF : 2 ≤ F) {h : H} {r : Option Nat} {x : Sv} (s : VsAt h r x.vs) (g : Good x) (num node : Int) :
    Ans (cf F 35 [RV r x, .int .i64 num, .int .i64 node] h) fun v h' => v = .tuple ⟨[RV r (setl x num node).2, .int .i64 (setl x num node).1]⟩ ∧ Kept h h' [] := by
  obtain ⟨F, rfl⟩ : ∃ G, F = G + 1 := ⟨F - 1, by omega⟩
  have hnum := g.len_num
  have hlen := g.len
  rw [cf_step (a := a35) rfl rfl (by simp [a35])]
  simp (disch := first | omega | (simp only [newRow_size, Array.size_setIfInBounds, Array.size_push]; done) | (simp only [newRow_size, Array.size_setIfInBounds, Array.size_push]; omega)) [a35, r35_0, r35_1, RV, eqT, eqF, neT, neF, ltT, ltF, leT, leF, nltT, nltF, nleT, nleF, nneT, nneF, flipX, List.getElem?_cons_zero, List.getElem?_cons_succ]
  refine Ans.next (rNow_spec (F := F) (r := r) (x := x) (by omega) (s.frame ⟨(by first | omega | (simp only [newRow_size, Array.size_setIfInBounds, Array.size_push]; done) | (simp only [newRow_size, Array.size_setIfInBounds, Array.size_push]; omega)), fun c hc _ => by simp (disch := first | omega | (simp only [newRow_size, Array.size_setIfInBounds, Array.size_push]; done) | (simp only [newRow_size, Array.size_setIfInBounds, Array.size_push]; omega)) []⟩) (by omega)) ?_
  rintro v h1 ⟨rfl, k1⟩
  have z1 := k1.1
  simp at z1
  have g1 := fun c => k1.get (b := c)
  simp only [List.not_mem_nil, not_false_eq_true, forall_const, newRow_size] at g1
  have hs := lenV_sl s
  have ho := one_sl r x.vs.length
  simp only [oneCell] at ho
  have hz : (x.vs.length = 0) = (x.now.num = 0) := by apply propext; omega
  by_cases c1 : x.now.num = 0
  · simp (disch := first | omega | (simp only [newRow_size, Array.size_setIfInBounds, Array.size_push]; done) | (simp only [newRow_size, Array.size_setIfInBounds, Array.size_push]; omega)) [Vw.val, Vw.cells, r35_2, r35_3, eqT, eqF, neT, neF, ltT, ltF, leT, leF, nltT, nltF, nleT, nleF, nneT, nneF, flipX, List.getElem?_cons_zero, List.getElem?_cons_succ, hs, g1, ho]
    refine Ans.of ⟨?_, (by first | omega | (simp only [newRow_size, Array.size_setIfInBounds, Array.size_push]; done) | (simp only [newRow_size, Array.size_setIfInBounds, Array.size_push]; omega)), ?_⟩
    · simp [setl, c1, RV]
    · intro c hc _
      simp (disch := first | omega | (simp only [newRow_size, Array.size_setIfInBounds, Array.size_push]; done) | (simp only [newRow_size, Array.size_setIfInBounds, Array.size_push]; omega)) [g1]
  by_cases c2 : num = x.now.num
  · by_cases c3 : node = x.now.pri
    · simp (disch := first | omega | (simp only [newRow_size, Array.size_setIfInBounds, Array.size_push]; done) | (simp only [newRow_size, Array.size_setIfInBounds, Array.size_push]; omega)) [Vw.val, Vw.cells, r35_2, r35_4, r35_5, eqT, eqF, neT, neF, ltT, ltF, leT, leF, nltT, nltF, nleT, nleF, nneT, nneF, flipX, List.getElem?_cons_zero, List.getElem?_cons_succ, hs, g1, ho]
      refine Ans.of ⟨?_, (by first | omega | (simp only [newRow_size, Array.size_setIfInBounds, Array.size_push]; done) | (simp only [newRow_size, Array.size_setIfInBounds, Array.size_push]; omega)), ?_⟩
      · simp [setl, c1, c2, c3, RV]
      · intro c hc _
        simp (disch := first | omega | (simp only [newRow_size, Array.size_setIfInBounds, Array.size_push]; done) | (simp only [newRow_size, Array.size_setIfInBounds, Array.size_push]; omega)) [g1]
    · simp (disch := first | omega | (simp only [newRow_size, Array.size_setIfInBounds, Array.size_push]; done) | (simp only [newRow_size, Array.size_setIfInBounds, Array.size_push]; omega)) [Vw.val, Vw.cells, r35_2, r35_3, eqT, eqF, neT, neF, ltT, ltF, leT, leF, nltT, nltF, nleT, nleF, nneT, nneF, flipX, List.getElem?_cons_zero, List.getElem?_cons_succ, hs, g1, ho]
      refine Ans.of ⟨?_, (by first | omega | (simp only [newRow_size, Array.size_setIfInBounds, Array.size_push]; done) | (simp only [newRow_size, Array.size_setIfInBounds, Array.size_push]; omega)), ?_⟩
      · simp [setl, c1, c2, c3, RV]
      · intro c hc _
        simp (disch := first | omega | (simp only [newRow_size, Array.size_setIfInBounds, Array.size_push]; done) | (simp only [newRow_size, Array.size_setIfInBounds, Array.size_push]; omega)) [g1]
  · simp (disch := first | omega | (simp only [newRow_size, Array.size_setIfInBounds, Array.size_push]; done) | (simp only [newRow_size, Array.size_setIfInBounds, Array.size_push]; omega)) [Vw.val, Vw.cells, r35_2, r35_3, eqT, eqF, neT, neF, ltT, ltF, leT, leF, nltT, nltF, nleT, nleF, nneT, nneF, flipX, List.getElem?_cons_zero, List.getElem?_cons_succ, hs, g1, ho]
    refine Ans.of ⟨?_, (by first | omega | (simp only [newRow_size, Array.size_setIfInBounds, Array.size_push]; done) | (simp only [newRow_size, Array.size_setIfInBounds, Array.size_push]; omega)), ?_⟩
    · simp [setl, c1, c2, RV]
    · intro c hc _
      simp (disch := first | omega | (simp only [newRow_size, Array.size_setIfInBounds, Array.size_push]; done) | (simp only [newRow_size, Array.size_setIfInBounds, Array.size_push]; omega)) [g1]

end Go.Proofs.Ytefbpobeclkbhaa
