/- The program's view service: New, All, Take. -/
import Derived.Test.YtefbpobeclkbhaaVb3
set_option linter.unusedSimpArgs false
set_option linter.unusedVariables false
namespace Go.Proofs.Ytefbpobeclkbhaa
open Go.Ev

theorem New_bad {F : Nat} (hF : 1 ≤ F) (h : H) (n : Int) (hn : n < 1 ∨ 5 < n) : cf F 12 [.int .i64 n] h = some (.tuple ⟨[.pointer none, .int .i64 1]⟩, h) := by
  obtain ⟨F, rfl⟩ : ∃ G, F = G + 1 := ⟨F - 1, by omega⟩
  rw [cf_step (a := a12) rfl rfl (by simp [a12])]
  by_cases h1 : n < 1
  · simp (disch := first | omega | (simp only [newRow_size, Array.size_setIfInBounds, Array.size_push]; done) | (simp only [newRow_size, Array.size_setIfInBounds, Array.size_push]; omega)) [a12, r12_0, r12_1, r12_2, eqT, eqF, neT, neF, ltT, ltF, leT, leF, nltT, nltF, nleT, nleF, nneT, nneF, flipX, List.getElem?_cons_zero, List.getElem?_cons_succ]
  · simp (disch := first | omega | (simp only [newRow_size, Array.size_setIfInBounds, Array.size_push]; done) | (simp only [newRow_size, Array.size_setIfInBounds, Array.size_push]; omega)) [a12, r12_0, r12_1, r12_2, eqT, eqF, neT, neF, ltT, ltF, leT, leF, nltT, nltF, nleT, nleF, nneT, nneF, flipX, List.getElem?_cons_zero, List.getElem?_cons_succ]

def NewPost (h : H) (n : Int) (v : Value) (h' : H) : Prop := ∃ b r, v = .tuple ⟨[.pointer (some ⟨b, 0, none⟩), .int .i64 0]⟩ ∧ SvAt h' b 0 (some r) (first n) ∧ h.size ≤ b ∧ h.size ≤ r ∧ Kept h h' []

theorem New_spec {F : Nat} (hF : 1 ≤ F) (h : H) (n : Int) (h1 : 1 ≤ n) (h2 : n ≤ 5) : Ans (cf F 12 [.int .i64 n] h) (NewPost h n) := by
  obtain ⟨F, rfl⟩ : ∃ G, F = G + 1 := ⟨F - 1, by omega⟩
  rw [cf_step (a := a12) rfl rfl (by simp [a12])]
  by_cases c : n = 1
  · simp (disch := first | omega | (simp only [newRow_size, Array.size_setIfInBounds, Array.size_push]; done) | (simp only [newRow_size, Array.size_setIfInBounds, Array.size_push]; omega)) [a12, r12_0, r12_1, r12_2, r12_3, r12_4, r12_5, r12_6, eqT, eqF, neT, neF, ltT, ltF, leT, leF, nltT, nltF, nleT, nleF, nneT, nneF, flipX, List.getElem?_cons_zero, List.getElem?_cons_succ]
    refine Ans.of ?_
    refine ⟨h.size + 2, h.size + 1, rfl, ⟨?_, ⟨[], ?_⟩, ?_⟩, (by first | omega | (simp only [newRow_size, Array.size_setIfInBounds, Array.size_push]; done) | (simp only [newRow_size, Array.size_setIfInBounds, Array.size_push]; omega)), (by first | omega | (simp only [newRow_size, Array.size_setIfInBounds, Array.size_push]; done) | (simp only [newRow_size, Array.size_setIfInBounds, Array.size_push]; omega)), (by first | omega | (simp only [newRow_size, Array.size_setIfInBounds, Array.size_push]; done) | (simp only [newRow_size, Array.size_setIfInBounds, Array.size_push]; omega)), ?_⟩
    · simp (disch := first | omega | (simp only [newRow_size, Array.size_setIfInBounds, Array.size_push]; done) | (simp only [newRow_size, Array.size_setIfInBounds, Array.size_push]; omega)) [scells, first]
    · simp (disch := first | omega | (simp only [newRow_size, Array.size_setIfInBounds, Array.size_push]; done) | (simp only [newRow_size, Array.size_setIfInBounds, Array.size_push]; omega)) [first, vcs, Vw.cells, c]
    · simp
    · intro q hq _
      simp (disch := first | omega | (simp only [newRow_size, Array.size_setIfInBounds, Array.size_push]; done) | (simp only [newRow_size, Array.size_setIfInBounds, Array.size_push]; omega)) []
  · simp (disch := first | omega | (simp only [newRow_size, Array.size_setIfInBounds, Array.size_push]; done) | (simp only [newRow_size, Array.size_setIfInBounds, Array.size_push]; omega)) [a12, r12_0, r12_1, r12_2, r12_3, r12_4, r12_5, r12_6, eqT, eqF, neT, neF, ltT, ltF, leT, leF, nltT, nltF, nleT, nleF, nneT, nneF, flipX, List.getElem?_cons_zero, List.getElem?_cons_succ]
    refine Ans.of ?_
    refine ⟨h.size + 2, h.size + 1, rfl, ⟨?_, ⟨[], ?_⟩, ?_⟩, (by first | omega | (simp only [newRow_size, Array.size_setIfInBounds, Array.size_push]; done) | (simp only [newRow_size, Array.size_setIfInBounds, Array.size_push]; omega)), (by first | omega | (simp only [newRow_size, Array.size_setIfInBounds, Array.size_push]; done) | (simp only [newRow_size, Array.size_setIfInBounds, Array.size_push]; omega)), (by first | omega | (simp only [newRow_size, Array.size_setIfInBounds, Array.size_push]; done) | (simp only [newRow_size, Array.size_setIfInBounds, Array.size_push]; omega)), ?_⟩
    · simp (disch := first | omega | (simp only [newRow_size, Array.size_setIfInBounds, Array.size_push]; done) | (simp only [newRow_size, Array.size_setIfInBounds, Array.size_push]; omega)) [scells, first]
    · simp (disch := first | omega | (simp only [newRow_size, Array.size_setIfInBounds, Array.size_push]; done) | (simp only [newRow_size, Array.size_setIfInBounds, Array.size_push]; omega)) [first, vcs, Vw.cells, c]
    · simp
    · intro q hq _
      simp (disch := first | omega | (simp only [newRow_size, Array.size_setIfInBounds, Array.size_push]; done) | (simp only [newRow_size, Array.size_setIfInBounds, Array.size_push]; omega)) []

theorem vcs_cell (vs : List Vw) : ∀ x ∈ vcs vs, ∃ n, x = .int .i64 n := by
  intro x hx
  simp only [vcs, List.mem_flatMap, Vw.cells, List.mem_cons, List.not_mem_nil, or_false] at hx
  obtain ⟨v, _, e | e | e⟩ := hx <;> exact ⟨_, e⟩

theorem vcs_all (vs : List Vw) : (vcs vs).all oneCell = true := by
  rw [List.all_eq_true]
  intro x hx
  obtain ⟨n, rfl⟩ := vcs_cell vs x hx
  rfl

def AllPost (h : H) (x : Sv) (v : Value) (h' : H) : Prop := ∃ q, v = .slice (some ⟨q, 0, none⟩) x.vs.length x.vs.length ∧ hget h' q = some (.cells (vcs x.vs) 3 true []) ∧ h.size ≤ q ∧ Kept h h' []

theorem All_spec {F : Nat} (hF : 2 ≤ F) {h : H} {b : Nat} {r : Option Nat} {x : Sv} (s : SvAt h b 0 r x) (hmax : x.vs.length ≤ 1000) :
    Ans (cf F 16 [.pointer (some ⟨b, 0, none⟩)] h) (AllPost h x) := by
  obtain ⟨F, rfl⟩ : ∃ G, F = G + 1 := ⟨F - 1, by omega⟩
  have hb := s.at'
  have hbs := lt_of_get hb
  rw [cf_step (a := a16) rfl rfl (by simp [a16])]
  have hall := vcs_all x.vs
  have hl := vcs_length x.vs
  cases r with
  | none =>
    have hvs : x.vs = [] := s.vs
    simp (disch := first | omega | (simp only [newRow_size, Array.size_setIfInBounds, Array.size_push]; done) | (simp only [newRow_size, Array.size_setIfInBounds, Array.size_push]; omega)) [a16, r16_0, r16_1, r16_3, r16_4, r16_5, r16_6, r16_7, hb, scells, lock_eq (F := F) (by omega), eqT, eqF, neT, neF, ltT, ltF, leT, leF, nltT, nltF, nleT, nleF, nneT, nneF, flipX, List.getElem?_cons_zero, List.getElem?_cons_succ, hvs, srcOf]
    refine Ans.of ?_
    refine ⟨h.size, by simp [hvs], ?_, (by first | omega | (simp only [newRow_size, Array.size_setIfInBounds, Array.size_push]; done) | (simp only [newRow_size, Array.size_setIfInBounds, Array.size_push]; omega)), (by first | omega | (simp only [newRow_size, Array.size_setIfInBounds, Array.size_push]; done) | (simp only [newRow_size, Array.size_setIfInBounds, Array.size_push]; omega)), ?_⟩
    · simp (disch := first | omega | (simp only [newRow_size, Array.size_setIfInBounds, Array.size_push]; done) | (simp only [newRow_size, Array.size_setIfInBounds, Array.size_push]; omega)) [vcs, hvs]
    · intro q hq _
      by_cases e : b = q
      · subst e; simp (disch := first | omega | (simp only [newRow_size, Array.size_setIfInBounds, Array.size_push]; done) | (simp only [newRow_size, Array.size_setIfInBounds, Array.size_push]; omega)) [hb, scells, hvs]
      · simp (disch := first | omega | (simp only [newRow_size, Array.size_setIfInBounds, Array.size_push]; done) | (simp only [newRow_size, Array.size_setIfInBounds, Array.size_push]; omega)) []
  | some r =>
    obtain ⟨an, hr⟩ := s.vs
    have hrs := lt_of_get hr
    have hrb : ¬ b = r := fun e => s.ne (by rw [e])
    by_cases hz : x.vs.length = 0
    · have hvs : x.vs = [] := List.length_eq_zero_iff.1 hz
      simp (disch := first | omega | (simp only [newRow_size, Array.size_setIfInBounds, Array.size_push]; done) | (simp only [newRow_size, Array.size_setIfInBounds, Array.size_push]; omega)) [a16, r16_0, r16_1, r16_3, r16_4, r16_5, r16_6, r16_7, hb, scells, lock_eq (F := F) (by omega), eqT, eqF, neT, neF, ltT, ltF, leT, leF, nltT, nltF, nleT, nleF, nneT, nneF, flipX, List.getElem?_cons_zero, List.getElem?_cons_succ, hvs, srcOf]
      refine Ans.of ?_
      refine ⟨h.size, by simp [hvs], ?_, (by first | omega | (simp only [newRow_size, Array.size_setIfInBounds, Array.size_push]; done) | (simp only [newRow_size, Array.size_setIfInBounds, Array.size_push]; omega)), (by first | omega | (simp only [newRow_size, Array.size_setIfInBounds, Array.size_push]; done) | (simp only [newRow_size, Array.size_setIfInBounds, Array.size_push]; omega)), ?_⟩
      · simp (disch := first | omega | (simp only [newRow_size, Array.size_setIfInBounds, Array.size_push]; done) | (simp only [newRow_size, Array.size_setIfInBounds, Array.size_push]; omega)) [vcs, hvs]
      · intro q hq _
        by_cases e : b = q
        · subst e; simp (disch := first | omega | (simp only [newRow_size, Array.size_setIfInBounds, Array.size_push]; done) | (simp only [newRow_size, Array.size_setIfInBounds, Array.size_push]; omega)) [hb, scells, hvs]
        · simp (disch := first | omega | (simp only [newRow_size, Array.size_setIfInBounds, Array.size_push]; done) | (simp only [newRow_size, Array.size_setIfInBounds, Array.size_push]; omega)) []
    · simp (disch := first | omega | (simp only [newRow_size, Array.size_setIfInBounds, Array.size_push]; done) | (simp only [newRow_size, Array.size_setIfInBounds, Array.size_push]; omega)) [a16, r16_0, r16_1, r16_3, r16_4, r16_5, r16_6, r16_7, hb, scells, lock_eq (F := F) (by omega), eqT, eqF, neT, neF, ltT, ltF, leT, leF, nltT, nltF, nleT, nleF, nneT, nneF, flipX, List.getElem?_cons_zero, List.getElem?_cons_succ, srcOf, hr, hl, List.take_of_length_le, vcs_all]
      refine Ans.of ?_
      refine ⟨h.size, rfl, ?_, (by first | omega | (simp only [newRow_size, Array.size_setIfInBounds, Array.size_push]; done) | (simp only [newRow_size, Array.size_setIfInBounds, Array.size_push]; omega)), (by first | omega | (simp only [newRow_size, Array.size_setIfInBounds, Array.size_push]; done) | (simp only [newRow_size, Array.size_setIfInBounds, Array.size_push]; omega)), ?_⟩
      · have e : List.drop (3 * x.vs.length) (List.replicate x.vs.length [Value.int IntKind.i64 0, Value.int IntKind.i64 0, Value.int IntKind.i64 0]).flatten = [] := List.drop_of_length_le (by simp; omega)
        simp (disch := first | omega | (simp only [newRow_size, Array.size_setIfInBounds, Array.size_push]; done) | (simp only [newRow_size, Array.size_setIfInBounds, Array.size_push]; omega)) [e]
      · intro q hq _
        by_cases e : b = q
        · subst e; simp (disch := first | omega | (simp only [newRow_size, Array.size_setIfInBounds, Array.size_push]; done) | (simp only [newRow_size, Array.size_setIfInBounds, Array.size_push]; omega)) [hb, scells]
        · simp (disch := first | omega | (simp only [newRow_size, Array.size_setIfInBounds, Array.size_push]; done) | (simp only [newRow_size, Array.size_setIfInBounds, Array.size_push]; omega)) []

/-! ### notes -/
def noteC (kind : Int) (v : Vw) : List Value := [.int .i64 kind, .int .i64 v.num, .int .i64 v.pri, .int .i64 v.bak, .int .i64 0, .int .i64 0, .int .i64 0, .int .i64 0, .int .i64 0, .int .i64 0, .int .i64 0, .slice none 0 0, .slice none 0 0, .int .i64 0, .int .i64 0, .int .i64 0, .slice none 0 0, .slice none 0 0, .slice none 0 0, .slice none 0 0, .string ⟨#[]⟩]

/-- A list of notes: none, or one that tells a view. -/
def NotesAt (h : H) (q : Nat) (o : Option Vw) (v : Value) : Prop := match o with
  | none => v = .slice none 0 0
  | some w => v = .slice (some ⟨q, 0, none⟩) 1 1 ∧ hget h q = some (.cells (noteC 22 w) 21 true [])

def takeM (x : Sv) (fr kind num : Int) : Sv × Option Vw :=
  if kind = 21 then (x, if x.now.num = 0 then none else some x.now)
  else if kind = 23 then ((setl x num fr).2, none)
  else (x, none)

def TakePost (h : H) (b : Nat) (r : Option Nat) (x : Sv) (fr kind num : Int) (v : Value) (h' : H) : Prop :=
  ∃ q, NotesAt h' q (takeM x fr kind num).2 v ∧ h.size ≤ q ∧ SvAt h' b 0 r (takeM x fr kind num).1 ∧ Kept h h' [b]

theorem duties_in {F : Nat} (hF : 1 ≤ F) (h : H) : cf F 32 [] h = some (.map (some h.size), h.push (.map [(.int .i64 21, .agg ⟨[.func (.func 42) #[] #[]]⟩), (.int .i64 23, .agg ⟨[.func (.func 43) #[] #[]]⟩)] true)) := by
  obtain ⟨F, rfl⟩ : ∃ G, F = G + 1 := ⟨F - 1, by omega⟩
  rw [cf_step (a := a32) rfl rfl (by simp [a32])]
  simp (disch := first | omega | (simp only [newRow_size, Array.size_setIfInBounds, Array.size_push]; done) | (simp only [newRow_size, Array.size_setIfInBounds, Array.size_push]; omega)) [a32, r32_0, r32_1, eqT, eqF, neT, neF, ltT, ltF, leT, leF, nltT, nltF, nleT, nleF, nneT, nneF, flipX, List.getElem?_cons_zero, List.getElem?_cons_succ]

end Go.Proofs.Ytefbpobeclkbhaa
