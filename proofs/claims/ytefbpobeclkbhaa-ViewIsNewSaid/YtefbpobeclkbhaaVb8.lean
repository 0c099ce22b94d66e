/- The law's helpers: whole, bare, sameNotes, sameViews. -/
import Derived.Test.YtefbpobeclkbhaaVb7
set_option linter.unusedSimpArgs false
set_option linter.unusedVariables false
namespace Go.Proofs.Ytefbpobeclkbhaa
open Go.Ev

/-- One act of a script. -/
structure Act where
  k : Int
  a : Int
  b : Int
  nk : Int
  nn : Int
  rest : List Value

def restZ : List Value := [.int .i64 0, .int .i64 0, .int .i64 0, .int .i64 0, .int .i64 0, .int .i64 0, .int .i64 0, .int .i64 0, .int .i64 0, .slice none 0 0, .slice none 0 0, .int .i64 0, .int .i64 0, .int .i64 0, .slice none 0 0, .slice none 0 0, .slice none 0 0, .slice none 0 0, .string ⟨#[]⟩]
def Act.cells (a : Act) : List Value := .int .i64 a.k :: .int .i64 a.a :: .int .i64 a.b :: .int .i64 a.nk :: .int .i64 a.nn :: a.rest
def Act.val (a : Act) : Value := .agg ⟨a.cells⟩
structure Act.Ok (a : Act) : Prop where
  len : a.rest.length = 19
  one : a.rest.all oneCell = true
  same : sameL a.rest a.rest = true

def wholeM (v : Vw) (a : Act) : Act :=
  if a.k = 4 then ⟨1, if a.a.tmod 2 = 0 then v.pri else v.bak, a.b, 0, 0, restZ⟩
  else if a.k = 5 then ⟨2, v.num, v.pri, 0, 0, restZ⟩
  else if a.k = 6 then ⟨3, v.pri, 0, 23, v.num, restZ⟩
  else a

theorem restZ_same : sameL restZ restZ = true := by decide
theorem restZ_ok (k a b nk nn : Int) : Act.Ok ⟨k, a, b, nk, nn, restZ⟩ := ⟨rfl, rfl, restZ_same⟩
theorem wholeM_ok (v : Vw) {a : Act} (h : a.Ok) : (wholeM v a).Ok := by
  unfold wholeM
  split
  · exact restZ_ok _ _ _ _ _
  split
  · exact restZ_ok _ _ _ _ _
  split
  · exact restZ_ok _ _ _ _ _
  · exact h

theorem whole_spec {F : Nat} (hF : 1 ≤ F) (h : H) (v : Vw) {a : Act} (ok : a.Ok) :
    Ans (cf F 31 [v.val, a.val] h) fun w h' => w = (wholeM v a).val ∧ Kept h h' [] := by
  obtain ⟨F, rfl⟩ : ∃ G, F = G + 1 := ⟨F - 1, by omega⟩
  obtain ⟨hl, ho, _⟩ := ok
  rw [cf_step (a := a31) rfl rfl (by simp [a31])]
  by_cases c4 : a.k = 4
  · by_cases c : a.a.tmod 2 = 0
    · simp (disch := first | omega | (simp only [newRow_size, Array.size_setIfInBounds, Array.size_push]; done) | (simp only [newRow_size, Array.size_setIfInBounds, Array.size_push]; omega)) [a31, r31_0, r31_1, r31_2, r31_3, r31_4, r31_5, r31_6, eqT, eqF, neT, neF, ltT, ltF, leT, leF, nltT, nltF, nleT, nleF, nneT, nneF, flipX, List.getElem?_cons_zero, List.getElem?_cons_succ, Vw.val, Vw.cells, Act.val, Act.cells, hl]
      refine Ans.of ⟨?_, (by first | omega | (simp only [newRow_size, Array.size_setIfInBounds, Array.size_push]; done) | (simp only [newRow_size, Array.size_setIfInBounds, Array.size_push]; omega)), ?_⟩
      · simp [wholeM, c4, c, restZ]
      · intro c hc _
        simp (disch := first | omega | (simp only [newRow_size, Array.size_setIfInBounds, Array.size_push]; done) | (simp only [newRow_size, Array.size_setIfInBounds, Array.size_push]; omega)) []
    · simp (disch := first | omega | (simp only [newRow_size, Array.size_setIfInBounds, Array.size_push]; done) | (simp only [newRow_size, Array.size_setIfInBounds, Array.size_push]; omega)) [a31, r31_0, r31_1, r31_2, r31_3, r31_4, r31_5, r31_6, eqT, eqF, neT, neF, ltT, ltF, leT, leF, nltT, nltF, nleT, nleF, nneT, nneF, flipX, List.getElem?_cons_zero, List.getElem?_cons_succ, Vw.val, Vw.cells, Act.val, Act.cells, hl]
      refine Ans.of ⟨?_, (by first | omega | (simp only [newRow_size, Array.size_setIfInBounds, Array.size_push]; done) | (simp only [newRow_size, Array.size_setIfInBounds, Array.size_push]; omega)), ?_⟩
      · simp [wholeM, c4, c, restZ]
      · intro c hc _
        simp (disch := first | omega | (simp only [newRow_size, Array.size_setIfInBounds, Array.size_push]; done) | (simp only [newRow_size, Array.size_setIfInBounds, Array.size_push]; omega)) []
  by_cases c5 : a.k = 5
  · simp (disch := first | omega | (simp only [newRow_size, Array.size_setIfInBounds, Array.size_push]; done) | (simp only [newRow_size, Array.size_setIfInBounds, Array.size_push]; omega)) [a31, r31_0, r31_1, r31_2, r31_7, r31_8, eqT, eqF, neT, neF, ltT, ltF, leT, leF, nltT, nltF, nleT, nleF, nneT, nneF, flipX, List.getElem?_cons_zero, List.getElem?_cons_succ, Vw.val, Vw.cells, Act.val, Act.cells, hl]
    refine Ans.of ⟨?_, (by first | omega | (simp only [newRow_size, Array.size_setIfInBounds, Array.size_push]; done) | (simp only [newRow_size, Array.size_setIfInBounds, Array.size_push]; omega)), ?_⟩
    · simp [wholeM, c4, c5, restZ]
    · intro c hc _
      simp (disch := first | omega | (simp only [newRow_size, Array.size_setIfInBounds, Array.size_push]; done) | (simp only [newRow_size, Array.size_setIfInBounds, Array.size_push]; omega)) []
  by_cases c6 : a.k = 6
  · simp (disch := first | omega | (simp only [newRow_size, Array.size_setIfInBounds, Array.size_push]; done) | (simp only [newRow_size, Array.size_setIfInBounds, Array.size_push]; omega)) [a31, r31_0, r31_1, r31_2, r31_7, r31_9, r31_10, eqT, eqF, neT, neF, ltT, ltF, leT, leF, nltT, nltF, nleT, nleF, nneT, nneF, flipX, List.getElem?_cons_zero, List.getElem?_cons_succ, Vw.val, Vw.cells, Act.val, Act.cells, hl]
    refine Ans.of ⟨?_, (by first | omega | (simp only [newRow_size, Array.size_setIfInBounds, Array.size_push]; done) | (simp only [newRow_size, Array.size_setIfInBounds, Array.size_push]; omega)), ?_⟩
    · simp [wholeM, c4, c5, c6, restZ]
    · intro c hc _
      simp (disch := first | omega | (simp only [newRow_size, Array.size_setIfInBounds, Array.size_push]; done) | (simp only [newRow_size, Array.size_setIfInBounds, Array.size_push]; omega)) []
  · have ho' := ho
    simp only [List.all_eq_true, oneCell] at ho'
    simp (disch := first | omega | (simp only [newRow_size, Array.size_setIfInBounds, Array.size_push]; done) | (simp only [newRow_size, Array.size_setIfInBounds, Array.size_push]; omega)) [a31, r31_0, r31_1, r31_2, r31_7, r31_9, r31_11, eqT, eqF, neT, neF, ltT, ltF, leT, leF, nltT, nltF, nleT, nleF, nneT, nneF, flipX, List.getElem?_cons_zero, List.getElem?_cons_succ, Vw.val, Vw.cells, Act.val, Act.cells, hl, ho, List.take_of_length_le]
    refine Ans.of ⟨?_, (by first | omega | (simp only [newRow_size, Array.size_setIfInBounds, Array.size_push]; done) | (simp only [newRow_size, Array.size_setIfInBounds, Array.size_push]; omega)), ?_⟩
    · simp [wholeM, c4, c5, c6]
    · intro c hc _
      simp (disch := first | omega | (simp only [newRow_size, Array.size_setIfInBounds, Array.size_push]; done) | (simp only [newRow_size, Array.size_setIfInBounds, Array.size_push]; omega)) []

theorem bare_spec {F : Nat} (hF : 1 ≤ F) (h : H) (k : Int) (w : Vw) :
    Ans (cf F 20 [.agg ⟨noteC k w⟩, .int .i64 k, w.val] h) fun v h' => v = .bool true ∧ Kept h h' [] := by
  obtain ⟨F, rfl⟩ : ∃ G, F = G + 1 := ⟨F - 1, by omega⟩
  have hemp : ((⟨#[]⟩ : ByteArray) == ⟨#[]⟩) = true := by decide
  rw [cf_step (a := a20) rfl rfl (by simp [a20])]
  simp (disch := first | omega | (simp only [newRow_size, Array.size_setIfInBounds, Array.size_push]; done) | (simp only [newRow_size, Array.size_setIfInBounds, Array.size_push]; omega)) [a20, r20_0, r20_1, r20_2, r20_3, r20_4, noteC, Vw.val, Vw.cells, eqT, eqF, neT, neF, ltT, ltF, leT, leF, nltT, nltF, nleT, nleF, nneT, nneF, flipX, List.getElem?_cons_zero, List.getElem?_cons_succ, hemp]
  refine Ans.of ⟨rfl, (by first | omega | (simp only [newRow_size, Array.size_setIfInBounds, Array.size_push]; done) | (simp only [newRow_size, Array.size_setIfInBounds, Array.size_push]; omega)), ?_⟩
  intro c hc _
  simp (disch := first | omega | (simp only [newRow_size, Array.size_setIfInBounds, Array.size_push]; done) | (simp only [newRow_size, Array.size_setIfInBounds, Array.size_push]; omega)) []

end Go.Proofs.Ytefbpobeclkbhaa
