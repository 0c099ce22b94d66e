/- The law's helpers: sameNotes, sameViews, stands. -/
import Derived.Test.YtefbpobeclkbhaaVb8
set_option linter.unusedSimpArgs false
set_option linter.unusedVariables false
namespace Go.Proofs.Ytefbpobeclkbhaa
open Go.Ev

/-- A slice of views, however it came about. -/
def SlV (h : H) (v : Value) (vs : List Vw) : Prop :=
  (v = .slice none 0 0 ∧ vs = []) ∨ ∃ q lv an, v = .slice (some ⟨q, 0, none⟩) vs.length vs.length ∧ hget h q = some (.cells (vcs vs) 3 lv an)

theorem SlV.len {h : H} {v : Value} {vs : List Vw} (s : SlV h v vs) : lenV v = some (.int .i64 vs.length) := by
  rcases s with ⟨rfl, rfl⟩ | ⟨q, lv, an, rfl, _⟩ <;> simp

theorem SlV.of_sl {h : H} {r : Option Nat} {vs : List Vw} (s : VsAt h r vs) : SlV h (sl r vs.length) vs := by
  cases r with
  | none =>
    have e : vs = [] := s
    exact .inl ⟨rfl, e⟩
  | some r =>
    obtain ⟨an, e⟩ := s
    exact .inr ⟨r, true, an, rfl, e⟩

theorem SlV.frame {h h' : H} {v : Value} {vs : List Vw} (s : SlV h v vs) (k : Kept h h' []) : SlV h' v vs := by
  rcases s with s | ⟨q, lv, an, e, g⟩
  · exact .inl s
  · exact .inr ⟨q, lv, an, e, (k.get (lt_of_get g) (by simp)).trans g⟩

theorem vcs_at : ∀ (vs : List Vw) (i : Nat) (v : Vw), vs[i]? = some v → ((vcs vs).drop (i * 3)).take 3 = v.cells
  | [], i, v, h => by simp at h
  | w :: vs, 0, v, h => by
    simp at h
    subst h
    simp [vcs, Vw.cells]
  | w :: vs, i + 1, v, h => by
    simp at h
    have := vcs_at vs i v h
    have e : vcs (w :: vs) = .int .i64 w.num :: .int .i64 w.pri :: .int .i64 w.bak :: vcs vs := rfl
    rw [e, show (i + 1) * 3 = i * 3 + 1 + 1 + 1 by omega]
    simpa using this

theorem sameViews_spec {F : Nat} (hF : 1002 ≤ F) {h : H} {v w : Value} {vs : List Vw} (s1 : SlV h v vs) (s2 : SlV h w vs) (hmax : vs.length ≤ 1000) :
    cf F 24 [v, w] h = some (.bool true, h) := by
  obtain ⟨F, rfl⟩ : ∃ G, F = G + 1 := ⟨F - 1, by omega⟩
  suffices hs : Ans (cf (F + 1) 24 [v, w] h) fun u h' => u = .bool true ∧ h' = h by
    obtain ⟨u, h', e, rfl, rfl⟩ := hs
    exact e
  have hl1 := s1.len
  have hl2 := s2.len
  have hvl := vcs_length vs
  rw [cf_step (a := a24) rfl rfl (by simp [a24])]
  simp (disch := first | omega | (simp only [newRow_size, Array.size_setIfInBounds, Array.size_push]; done) | (simp only [newRow_size, Array.size_setIfInBounds, Array.size_push]; omega)) [a24, r24_0, r24_1, r24_3, hl1, hl2, eqT, eqF, neT, neF, ltT, ltF, leT, leF, nltT, nltF, nleT, nleF, nneT, nneF, flipX, List.getElem?_cons_zero, List.getElem?_cons_succ]
  refine loop_rule (fun m s g => ∃ i : Nat, m = vs.length - i ∧ i ≤ vs.length ∧ s = [(0, v), (1, w), (5, .int .i64 i)] ∧ g = h) ?_ _ vs.length _ _ (by omega) ⟨0, by omega, by omega, rfl, rfl⟩
  rintro m s g again ⟨i, rfl, hi, rfl, rfl⟩ ih
  by_cases hlt : i < vs.length
  · rcases s1 with ⟨rfl, rfl⟩ | ⟨q1, lv1, an1, rfl, e1⟩
    · simp at hlt
    rcases s2 with ⟨rfl, rfl⟩ | ⟨q2, lv2, an2, rfl, e2⟩
    · simp at hlt
    obtain ⟨x, hx⟩ : ∃ x, vs[i]? = some x := ⟨_, List.getElem?_eq_getElem hlt⟩
    have hat := vcs_at vs i x hx
    simp only [Vw.cells] at hat
    have hw : IntKind.i64.wrap ((i : Int) + 1) = ((i + 1 : Nat) : Int) := by rw [IntKind.wrap_i64]; omega
    simp (disch := first | omega | (simp only [newRow_size, Array.size_setIfInBounds, Array.size_push]; done) | (simp only [newRow_size, Array.size_setIfInBounds, Array.size_push]; omega)) [l24_8, r24_4, d24_5, r24_7, e1, e2, hvl, hat, eqT, eqF, neT, neF, ltT, ltF, leT, leF, nltT, nltF, nleT, nleF, nneT, nneF, flipX, List.getElem?_cons_zero, List.getElem?_cons_succ, hw]
    exact ih (vs.length - (i + 1)) _ _ (by omega) ⟨i + 1, rfl, by omega, rfl, rfl⟩
  · have : i = vs.length := by omega
    subst this
    simp (disch := first | omega | (simp only [newRow_size, Array.size_setIfInBounds, Array.size_push]; done) | (simp only [newRow_size, Array.size_setIfInBounds, Array.size_push]; omega)) [l24_8, r24_4, r24_9, hl1, eqT, eqF, neT, neF, ltT, ltF, leT, leF, nltT, nltF, nleT, nleF, nneT, nneF, flipX, List.getElem?_cons_zero, List.getElem?_cons_succ]
    exact Ans.of ⟨rfl, rfl⟩

theorem sameNotes_spec {F : Nat} (hF : 4 ≤ F) {h : H} {v w : Value} {q1 q2 : Nat} {o : Option Vw} (s1 : NotesAt h q1 o v) (s2 : NotesAt h q2 o w) :
    Ans (cf F 37 [v, w] h) fun u h' => u = .bool true ∧ Kept h h' [] := by
  obtain ⟨F, rfl⟩ : ∃ G, F = G + 1 := ⟨F - 1, by omega⟩
  rw [cf_step (a := a37) rfl rfl (by simp [a37])]
  cases o with
  | none =>
    have e1 : v = .slice none 0 0 := s1
    have e2 : w = .slice none 0 0 := s2
    subst e1 e2
    obtain ⟨F, rfl⟩ : ∃ G, F = G + 1 := ⟨F - 1, by omega⟩
    simp (disch := first | omega | (simp only [newRow_size, Array.size_setIfInBounds, Array.size_push]; done) | (simp only [newRow_size, Array.size_setIfInBounds, Array.size_push]; omega)) [a37, r37_0, r37_1, r37_3, loopK_succ, l37_9, r37_4, r37_10, eqT, eqF, neT, neF, ltT, ltF, leT, leF, nltT, nltF, nleT, nleF, nneT, nneF, flipX, List.getElem?_cons_zero, List.getElem?_cons_succ]
    exact Ans.of ⟨rfl, Kept.refl _ _⟩
  | some x =>
    obtain ⟨rfl, e1⟩ := s1
    obtain ⟨rfl, e2⟩ := s2
    obtain ⟨F, rfl⟩ : ∃ G, F = G + 1 := ⟨F - 1, by omega⟩
    obtain ⟨F, rfl⟩ : ∃ G, F = G + 1 := ⟨F - 1, by omega⟩
    have hb := bare_spec (F := F + 1 + 1) (by omega) h 22 x
    simp only [noteC, Vw.val, Vw.cells] at hb
    simp (disch := first | omega | (simp only [newRow_size, Array.size_setIfInBounds, Array.size_push]; done) | (simp only [newRow_size, Array.size_setIfInBounds, Array.size_push]; omega)) [a37, r37_0, r37_1, r37_3, loopK_succ, l37_9, r37_4, d37_5, eqT, eqF, neT, neF, ltT, ltF, leT, leF, nltT, nltF, nleT, nleF, nneT, nneF, flipX, List.getElem?_cons_zero, List.getElem?_cons_succ, e1, e2, noteC]
    refine Ans.nextE hb ?_
    rintro u h1 ⟨rfl, k1⟩
    simp (disch := first | omega | (simp only [newRow_size, Array.size_setIfInBounds, Array.size_push]; done) | (simp only [newRow_size, Array.size_setIfInBounds, Array.size_push]; omega)) [r37_6, r37_8, r37_10, loopK_succ, r37_4, eqT, eqF, neT, neF, ltT, ltF, leT, leF, nltT, nltF, nleT, nleF, nneT, nneF, flipX, List.getElem?_cons_zero, List.getElem?_cons_succ]
    have hw : IntKind.i64.wrap 1 = 1 := by decide
    simp (disch := first | omega | (simp only [newRow_size, Array.size_setIfInBounds, Array.size_push]; done) | (simp only [newRow_size, Array.size_setIfInBounds, Array.size_push]; omega)) [hw, eqT, eqF, neT, neF, ltT, ltF, leT, leF, nltT, nltF, nleT, nleF, nneT, nneF, flipX, List.getElem?_cons_zero, List.getElem?_cons_succ, r37_10]
    exact Ans.of ⟨rfl, k1⟩

end Go.Proofs.Ytefbpobeclkbhaa
