/- The document's view service (the reference): New, Promote, Take. -/
import Derived.Test.YtefbpobeclkbhaaVb6
set_option linter.unusedSimpArgs false
set_option linter.unusedVariables false
namespace Go.Proofs.Ytefbpobeclkbhaa
open Go.Ev

theorem rNew_bad {F : Nat} (hF : 1 ≤ F) (h : H) (n : Int) (hn : n < 1 ∨ 5 < n) : Ans (cf F 21 [.int .i64 n] h) fun v h' => v = .tuple ⟨[RV none ⟨0, [], false⟩, .int .i64 1]⟩ ∧ Kept h h' [] := by
  obtain ⟨F, rfl⟩ : ∃ G, F = G + 1 := ⟨F - 1, by omega⟩
  rw [cf_step (a := a21) rfl rfl (by simp [a21])]
  by_cases h1 : n < 1
  all_goals
    simp (disch := first | omega | (simp only [newRow_size, Array.size_setIfInBounds, Array.size_push]; done) | (simp only [newRow_size, Array.size_setIfInBounds, Array.size_push]; omega)) [a21, r21_0, r21_1, r21_2, eqT, eqF, neT, neF, ltT, ltF, leT, leF, nltT, nltF, nleT, nleF, nneT, nneF, flipX, List.getElem?_cons_zero, List.getElem?_cons_succ, RV]
    refine Ans.of ⟨rfl, (by first | omega | (simp only [newRow_size, Array.size_setIfInBounds, Array.size_push]; done) | (simp only [newRow_size, Array.size_setIfInBounds, Array.size_push]; omega)), ?_⟩
    intro c hc _
    simp (disch := first | omega | (simp only [newRow_size, Array.size_setIfInBounds, Array.size_push]; done) | (simp only [newRow_size, Array.size_setIfInBounds, Array.size_push]; omega)) []

def rNewPost (h : H) (n : Int) (v : Value) (h' : H) : Prop := ∃ r, v = .tuple ⟨[RV (some r) (first n), .int .i64 0]⟩ ∧ VsAt h' (some r) (first n).vs ∧ h.size ≤ r ∧ Kept h h' []

theorem rNew_spec {F : Nat} (hF : 1 ≤ F) (h : H) (n : Int) (h1 : 1 ≤ n) (h2 : n ≤ 5) : Ans (cf F 21 [.int .i64 n] h) (rNewPost h n) := by
  obtain ⟨F, rfl⟩ : ∃ G, F = G + 1 := ⟨F - 1, by omega⟩
  rw [cf_step (a := a21) rfl rfl (by simp [a21])]
  by_cases c : n = 1
  · simp (disch := first | omega | (simp only [newRow_size, Array.size_setIfInBounds, Array.size_push]; done) | (simp only [newRow_size, Array.size_setIfInBounds, Array.size_push]; omega)) [a21, r21_0, r21_1, r21_3, r21_4, r21_5, r21_6, eqT, eqF, neT, neF, ltT, ltF, leT, leF, nltT, nltF, nleT, nleF, nneT, nneF, flipX, List.getElem?_cons_zero, List.getElem?_cons_succ]
    refine Ans.of ⟨_, rfl, ⟨[], ?_⟩, (by first | omega | (simp only [newRow_size, Array.size_setIfInBounds, Array.size_push]; done) | (simp only [newRow_size, Array.size_setIfInBounds, Array.size_push]; omega)), (by first | omega | (simp only [newRow_size, Array.size_setIfInBounds, Array.size_push]; done) | (simp only [newRow_size, Array.size_setIfInBounds, Array.size_push]; omega)), ?_⟩
    · simp (disch := first | omega | (simp only [newRow_size, Array.size_setIfInBounds, Array.size_push]; done) | (simp only [newRow_size, Array.size_setIfInBounds, Array.size_push]; omega)) [first, vcs, Vw.cells, c]
    · intro c hc _
      simp (disch := first | omega | (simp only [newRow_size, Array.size_setIfInBounds, Array.size_push]; done) | (simp only [newRow_size, Array.size_setIfInBounds, Array.size_push]; omega)) []
  · simp (disch := first | omega | (simp only [newRow_size, Array.size_setIfInBounds, Array.size_push]; done) | (simp only [newRow_size, Array.size_setIfInBounds, Array.size_push]; omega)) [a21, r21_0, r21_1, r21_3, r21_4, r21_5, r21_6, eqT, eqF, neT, neF, ltT, ltF, leT, leF, nltT, nltF, nleT, nleF, nneT, nneF, flipX, List.getElem?_cons_zero, List.getElem?_cons_succ]
    refine Ans.of ⟨_, rfl, ⟨[], ?_⟩, (by first | omega | (simp only [newRow_size, Array.size_setIfInBounds, Array.size_push]; done) | (simp only [newRow_size, Array.size_setIfInBounds, Array.size_push]; omega)), (by first | omega | (simp only [newRow_size, Array.size_setIfInBounds, Array.size_push]; done) | (simp only [newRow_size, Array.size_setIfInBounds, Array.size_push]; omega)), ?_⟩
    · simp (disch := first | omega | (simp only [newRow_size, Array.size_setIfInBounds, Array.size_push]; done) | (simp only [newRow_size, Array.size_setIfInBounds, Array.size_push]; omega)) [first, vcs, Vw.cells, c]
    · intro c hc _
      simp (disch := first | omega | (simp only [newRow_size, Array.size_setIfInBounds, Array.size_push]; done) | (simp only [newRow_size, Array.size_setIfInBounds, Array.size_push]; omega)) []

def rPromPost (h : H) (r : Option Nat) (x : Sv) (p q : Int) (v : Value) (h' : H) : Prop :=
  ∃ r', v = .tuple ⟨[RV r' (prom x p q).2, .int .i64 (prom x p q).1]⟩ ∧ VsAt h' r' (prom x p q).2.vs ∧ (r' = r ∨ ∃ q, r' = some q ∧ h.size ≤ q) ∧ Kept h h' []

set_option maxHeartbeats 1000000 in
theorem rPromote_spec {F : Nat} (hF : 2 ≤ F) {h : H} {r : Option Nat} {x : Sv} (s : VsAt h r x.vs) (g : Good x) (p q : Int) :
    Ans (cf F 34 [RV r x, .int .i64 p, .int .i64 q] h) (rPromPost h r x p q) := by
  obtain ⟨F, rfl⟩ : ∃ G, F = G + 1 := ⟨F - 1, by omega⟩
  have hnum := g.len_num
  have hlen := g.len
  rw [cf_step (a := a34) rfl rfl (by simp [a34])]
  simp (disch := first | omega | (simp only [newRow_size, Array.size_setIfInBounds, Array.size_push]; done) | (simp only [newRow_size, Array.size_setIfInBounds, Array.size_push]; omega)) [a34, r34_0, r34_1, RV, eqT, eqF, neT, neF, ltT, ltF, leT, leF, nltT, nltF, nleT, nleF, nneT, nneF, flipX, List.getElem?_cons_zero, List.getElem?_cons_succ]
  refine Ans.next (rNow_spec (F := F) (r := r) (x := x) (by omega) (s.frame ⟨(by first | omega | (simp only [newRow_size, Array.size_setIfInBounds, Array.size_push]; done) | (simp only [newRow_size, Array.size_setIfInBounds, Array.size_push]; omega)), fun c hc _ => by simp (disch := first | omega | (simp only [newRow_size, Array.size_setIfInBounds, Array.size_push]; done) | (simp only [newRow_size, Array.size_setIfInBounds, Array.size_push]; omega)) []⟩) (by omega)) ?_
  rintro v h1 ⟨rfl, k1⟩
  have z1 := k1.1
  simp at z1
  have g1 := fun c => k1.get (b := c)
  simp only [List.not_mem_nil, not_false_eq_true, forall_const, newRow_size] at g1
  have hs := lenV_sl s
  have ho := one_sl r x.vs.length
  simp only [oneCell] at ho
  have fin : ∀ (c : Int) (h' : H), prom x p q = (c, x) → h1.size ≤ h'.size → (∀ c, c < h.size → hget h' c = hget h1 c) →
      Ans (some (Value.tuple ⟨[.agg ⟨[.int .i64 x.nodes, sl r x.vs.length, .bool x.st]⟩, .int .i64 c]⟩, h')) (rPromPost h r x p q) := by
    intro c h' e1 e2 e3
    have k : Kept h h' [] := ⟨by omega, fun c hc _ => by rw [e3 c hc]; simp (disch := first | omega | (simp only [newRow_size, Array.size_setIfInBounds, Array.size_push]; done) | (simp only [newRow_size, Array.size_setIfInBounds, Array.size_push]; omega)) [g1]⟩
    refine Ans.of ⟨r, ?_, ?_, .inl rfl, k⟩
    · rw [e1]; rfl
    · rw [e1]; exact s.frame k
  cases c0 : x.st with
  | false =>
    simp (disch := first | omega | (simp only [newRow_size, Array.size_setIfInBounds, Array.size_push]; done) | (simp only [newRow_size, Array.size_setIfInBounds, Array.size_push]; omega)) [Vw.val, Vw.cells, r34_2, r34_3, eqT, eqF, neT, neF, ltT, ltF, leT, leF, nltT, nltF, nleT, nleF, nneT, nneF, flipX, List.getElem?_cons_zero, List.getElem?_cons_succ, g1, c0, ho]
    have fin' := fin 121
    rw [c0] at fin'
    exact fin' _ (by simp [prom, c0]) (by first | omega | (simp only [newRow_size, Array.size_setIfInBounds, Array.size_push]; done) | (simp only [newRow_size, Array.size_setIfInBounds, Array.size_push]; omega)) fun c hc => by simp (disch := first | omega | (simp only [newRow_size, Array.size_setIfInBounds, Array.size_push]; done) | (simp only [newRow_size, Array.size_setIfInBounds, Array.size_push]; omega)) []
  | true =>
    have hne : x.vs ≠ [] := fun e => by rw [g.st e] at c0; cases c0
    have hn := g.now hne
    simp (disch := first | omega | (simp only [newRow_size, Array.size_setIfInBounds, Array.size_push]; done) | (simp only [newRow_size, Array.size_setIfInBounds, Array.size_push]; omega)) [Vw.val, Vw.cells, r34_2, eqT, eqF, neT, neF, ltT, ltF, leT, leF, nltT, nltF, nleT, nleF, nneT, nneF, flipX, List.getElem?_cons_zero, List.getElem?_cons_succ, g1, c0, ho]
    by_cases hp : (p ≠ x.now.pri ∧ p ≠ x.now.bak) ∨ ¬ (1 ≤ p ∧ p ≤ x.nodes)
    · have hm : prom x p q = (120, x) := by unfold prom; rw [if_neg (by simp [c0]), if_pos hp]
      by_cases c1 : p = 0 <;> by_cases c2 : p = x.now.pri <;> by_cases c3 : p = x.now.bak <;> first
        | (exfalso; omega)
        | (simp (disch := first | omega | (simp only [newRow_size, Array.size_setIfInBounds, Array.size_push]; done) | (simp only [newRow_size, Array.size_setIfInBounds, Array.size_push]; omega)) [r34_4, r34_5, r34_6, eqT, eqF, neT, neF, ltT, ltF, leT, leF, nltT, nltF, nleT, nleF, nneT, nneF, flipX, List.getElem?_cons_zero, List.getElem?_cons_succ, g1, ho]
           exact fin 120 _ hm (by first | omega | (simp only [newRow_size, Array.size_setIfInBounds, Array.size_push]; done) | (simp only [newRow_size, Array.size_setIfInBounds, Array.size_push]; omega)) fun c hc => by simp (disch := first | omega | (simp only [newRow_size, Array.size_setIfInBounds, Array.size_push]; done) | (simp only [newRow_size, Array.size_setIfInBounds, Array.size_push]; omega)) [])
    by_cases hq : (q ≠ 0 ∧ ¬ (1 ≤ q ∧ q ≤ x.nodes)) ∨ q = p
    · have hm : prom x p q = (120, x) := by unfold prom; rw [if_neg (by simp [c0]), if_neg hp, if_pos hq]
      by_cases c2 : p = x.now.pri <;> by_cases c4 : q < 0 <;> by_cases c5 : q ≤ x.nodes <;> first
        | (exfalso; omega)
        | (simp (disch := first | omega | (simp only [newRow_size, Array.size_setIfInBounds, Array.size_push]; done) | (simp only [newRow_size, Array.size_setIfInBounds, Array.size_push]; omega)) [r34_4, r34_5, r34_6, eqT, eqF, neT, neF, ltT, ltF, leT, leF, nltT, nltF, nleT, nleF, nneT, nneF, flipX, List.getElem?_cons_zero, List.getElem?_cons_succ, g1, ho]
           exact fin 120 _ hm (by first | omega | (simp only [newRow_size, Array.size_setIfInBounds, Array.size_push]; done) | (simp only [newRow_size, Array.size_setIfInBounds, Array.size_push]; omega)) fun c hc => by simp (disch := first | omega | (simp only [newRow_size, Array.size_setIfInBounds, Array.size_push]; done) | (simp only [newRow_size, Array.size_setIfInBounds, Array.size_push]; omega)) [])
    obtain ⟨r, rfl⟩ : ∃ q, r = some q := by
      cases r with
      | none => exact absurd s hne
      | some q => exact ⟨q, rfl⟩
    obtain ⟨an, hr⟩ := s
    have hrs := lt_of_get hr
    have hl := vcs_length x.vs
    have hw : IntKind.i64.wrap (x.now.num + 1) = x.now.num + 1 := by rw [IntKind.wrap_i64]; omega
    by_cases hn : 400 < x.vs.length
    · have hm : prom x p q = (3, x) := by unfold prom; rw [if_neg (by simp [c0]), if_neg hp, if_neg hq, if_pos (.inr hn)]
      by_cases c2 : p = x.now.pri
      all_goals
        simp (disch := first | omega | (simp only [newRow_size, Array.size_setIfInBounds, Array.size_push]; done) | (simp only [newRow_size, Array.size_setIfInBounds, Array.size_push]; omega)) [r34_4, r34_5, r34_7, r34_8, eqT, eqF, neT, neF, ltT, ltF, leT, leF, nltT, nltF, nleT, nleF, nneT, nneF, flipX, List.getElem?_cons_zero, List.getElem?_cons_succ, g1]
        exact fin 3 _ hm (by first | omega | (simp only [newRow_size, Array.size_setIfInBounds, Array.size_push]; done) | (simp only [newRow_size, Array.size_setIfInBounds, Array.size_push]; omega)) fun c hc => by simp (disch := first | omega | (simp only [newRow_size, Array.size_setIfInBounds, Array.size_push]; done) | (simp only [newRow_size, Array.size_setIfInBounds, Array.size_push]; omega)) []
    · have hm : prom x p q = (0, ⟨x.nodes, x.vs ++ [⟨x.now.num + 1, p, q⟩], false⟩) := by unfold prom; rw [if_neg (by simp [c0]), if_neg hp, if_neg hq, if_neg (by omega)]
      by_cases c2 : p = x.now.pri
      all_goals
        simp (disch := first | omega | (simp only [newRow_size, Array.size_setIfInBounds, Array.size_push]; done) | (simp only [newRow_size, Array.size_setIfInBounds, Array.size_push]; omega)) [r34_4, r34_5, r34_7, r34_9, r34_10, r34_11, r34_12, eqT, eqF, neT, neF, ltT, ltF, leT, leF, nltT, nltF, nleT, nleF, nneT, nneF, flipX, List.getElem?_cons_zero, List.getElem?_cons_succ, g1, srcOf, appendTo, hr, hl, hw, vcs_all, hne, List.take_of_length_le]
        refine Ans.of ?_
        unfold rPromPost
        rw [hm]
        refine ⟨some (h1.size + 1 + 2), ?_, ⟨[h1.size + 1], ?_⟩, .inr ⟨_, rfl, (by first | omega | (simp only [newRow_size, Array.size_setIfInBounds, Array.size_push]; done) | (simp only [newRow_size, Array.size_setIfInBounds, Array.size_push]; omega))⟩, (by first | omega | (simp only [newRow_size, Array.size_setIfInBounds, Array.size_push]; done) | (simp only [newRow_size, Array.size_setIfInBounds, Array.size_push]; omega)), ?_⟩
        · simp [RV]
        · simp (disch := first | omega | (simp only [newRow_size, Array.size_setIfInBounds, Array.size_push]; done) | (simp only [newRow_size, Array.size_setIfInBounds, Array.size_push]; omega)) [vcs_append, vcs, Vw.cells]
        · intro c hc _
          simp (disch := first | omega | (simp only [newRow_size, Array.size_setIfInBounds, Array.size_push]; done) | (simp only [newRow_size, Array.size_setIfInBounds, Array.size_push]; omega)) [g1]

def rTakePost (h : H) (r : Option Nat) (x : Sv) (fr kind num : Int) (v : Value) (h' : H) : Prop :=
  ∃ q s, v = .tuple ⟨[RV r (takeM x fr kind num).1, s]⟩ ∧ NotesAt h' q (takeM x fr kind num).2 s ∧ h.size ≤ q ∧ Kept h h' []

theorem setl_len (x : Sv) (a b : Int) : (setl x a b).2.vs = x.vs := by unfold setl; split <;> rfl

theorem rTake_spec {F : Nat} (hF : 3 ≤ F) {h : H} {r : Option Nat} {x : Sv} (s : VsAt h r x.vs) (g : Good x) (fr kind num : Int) (rest : List Value) (hr : rest.length = 19) :
    Ans (cf F 36 [RV r x, .int .i64 fr, .agg ⟨.int .i64 kind :: .int .i64 num :: rest⟩] h) (rTakePost h r x fr kind num) := by
  obtain ⟨F, rfl⟩ : ∃ G, F = G + 1 := ⟨F - 1, by omega⟩
  have hnum := g.len_num
  have hlen := g.len
  have hs := lenV_sl s
  have ho := one_sl r x.vs.length
  simp only [oneCell] at ho
  rw [cf_step (a := a36) rfl rfl (by simp [a36])]
  simp (disch := first | omega | (simp only [newRow_size, Array.size_setIfInBounds, Array.size_push]; done) | (simp only [newRow_size, Array.size_setIfInBounds, Array.size_push]; omega)) [a36, r36_0, r36_1, RV, eqT, eqF, neT, neF, ltT, ltF, leT, leF, nltT, nltF, nleT, nleF, nneT, nneF, flipX, List.getElem?_cons_zero, List.getElem?_cons_succ, hs]
  by_cases c0 : x.vs.length = 0
  · simp (disch := first | omega | (simp only [newRow_size, Array.size_setIfInBounds, Array.size_push]; done) | (simp only [newRow_size, Array.size_setIfInBounds, Array.size_push]; omega)) [r36_2, eqT, eqF, neT, neF, ltT, ltF, leT, leF, nltT, nltF, nleT, nleF, nneT, nneF, flipX, List.getElem?_cons_zero, List.getElem?_cons_succ, hs, ho]
    have hm : takeM x fr kind num = (x, none) := by
      unfold takeM setl
      have : x.now.num = 0 := by omega
      simp [this]
    refine Ans.of ⟨h.size, .slice none 0 0, ?_, ?_, (by first | omega | (simp only [newRow_size, Array.size_setIfInBounds, Array.size_push]; done) | (simp only [newRow_size, Array.size_setIfInBounds, Array.size_push]; omega)), (by first | omega | (simp only [newRow_size, Array.size_setIfInBounds, Array.size_push]; done) | (simp only [newRow_size, Array.size_setIfInBounds, Array.size_push]; omega)), ?_⟩
    · rw [hm]; rfl
    · rw [hm]; rfl
    · intro c hc _
      simp (disch := first | omega | (simp only [newRow_size, Array.size_setIfInBounds, Array.size_push]; done) | (simp only [newRow_size, Array.size_setIfInBounds, Array.size_push]; omega)) []
  have hz : ¬ x.vs = [] := fun e => c0 (by rw [e]; rfl)
  have hnz : ¬ x.now.num = 0 := by omega
  by_cases c1 : kind = 21
  · simp (disch := first | omega | (simp only [newRow_size, Array.size_setIfInBounds, Array.size_push]; done) | (simp only [newRow_size, Array.size_setIfInBounds, Array.size_push]; omega)) [r36_3, r36_4, eqT, eqF, neT, neF, ltT, ltF, leT, leF, nltT, nltF, nleT, nleF, nneT, nneF, flipX, List.getElem?_cons_zero, List.getElem?_cons_succ, hs, ho, hz]
    refine Ans.next (rNow_spec (F := F) (r := r) (x := x) (by omega) (s.frame ⟨(by first | omega | (simp only [newRow_size, Array.size_setIfInBounds, Array.size_push]; done) | (simp only [newRow_size, Array.size_setIfInBounds, Array.size_push]; omega)), fun c hc _ => by simp (disch := first | omega | (simp only [newRow_size, Array.size_setIfInBounds, Array.size_push]; done) | (simp only [newRow_size, Array.size_setIfInBounds, Array.size_push]; omega)) []⟩) (by omega)) ?_
    rintro v h1 ⟨rfl, k1⟩
    have z1 := k1.1
    simp at z1
    have g1 := fun c => k1.get (b := c)
    simp only [List.not_mem_nil, not_false_eq_true, forall_const, newRow_size] at g1
    simp (disch := first | omega | (simp only [newRow_size, Array.size_setIfInBounds, Array.size_push]; done) | (simp only [newRow_size, Array.size_setIfInBounds, Array.size_push]; omega)) [Vw.val, Vw.cells, d36_5, eqT, eqF, neT, neF, ltT, ltF, leT, leF, nltT, nltF, nleT, nleF, nneT, nneF, flipX, List.getElem?_cons_zero, List.getElem?_cons_succ, dk_go, chks_nil, chks_cons, chkA_nil, chkA_cons, chk1_no, chk1_yes, chkV_some, hAt_eq, hOf_some, hOf_none, sameV, sameL, sameCell, g1, ho]
    refine Ans.of ⟨h1.size + 1, .slice (some ⟨h1.size + 1, 0, none⟩) 1 1, ?_, ?_, (by first | omega | (simp only [newRow_size, Array.size_setIfInBounds, Array.size_push]; done) | (simp only [newRow_size, Array.size_setIfInBounds, Array.size_push]; omega)), (by first | omega | (simp only [newRow_size, Array.size_setIfInBounds, Array.size_push]; done) | (simp only [newRow_size, Array.size_setIfInBounds, Array.size_push]; omega)), ?_⟩
    · simp [takeM, c1, RV]
    · simp [takeM, c1, NotesAt, hnz]
      simp (disch := first | omega | (simp only [newRow_size, Array.size_setIfInBounds, Array.size_push]; done) | (simp only [newRow_size, Array.size_setIfInBounds, Array.size_push]; omega)) [noteC]
    · intro c hc _
      simp (disch := first | omega | (simp only [newRow_size, Array.size_setIfInBounds, Array.size_push]; done) | (simp only [newRow_size, Array.size_setIfInBounds, Array.size_push]; omega)) [g1]
  by_cases c2 : kind = 23
  · simp (disch := first | omega | (simp only [newRow_size, Array.size_setIfInBounds, Array.size_push]; done) | (simp only [newRow_size, Array.size_setIfInBounds, Array.size_push]; omega)) [r36_3, r36_6, r36_7, eqT, eqF, neT, neF, ltT, ltF, leT, leF, nltT, nltF, nleT, nleF, nneT, nneF, flipX, List.getElem?_cons_zero, List.getElem?_cons_succ, hs, ho, hz]
    refine Ans.next (rSettle_spec (F := F) (r := r) (x := x) (by omega) (s.frame ⟨(by first | omega | (simp only [newRow_size, Array.size_setIfInBounds, Array.size_push]; done) | (simp only [newRow_size, Array.size_setIfInBounds, Array.size_push]; omega)), fun c hc _ => by simp (disch := first | omega | (simp only [newRow_size, Array.size_setIfInBounds, Array.size_push]; done) | (simp only [newRow_size, Array.size_setIfInBounds, Array.size_push]; omega)) []⟩) g num fr) ?_
    rintro v h1 ⟨rfl, k1⟩
    have z1 := k1.1
    simp at z1
    have g1 := fun c => k1.get (b := c)
    simp only [List.not_mem_nil, not_false_eq_true, forall_const, newRow_size] at g1
    have ho' := one_sl r (setl x num fr).2.vs.length
    simp only [oneCell] at ho'
    simp (disch := first | omega | (simp only [newRow_size, Array.size_setIfInBounds, Array.size_push]; done) | (simp only [newRow_size, Array.size_setIfInBounds, Array.size_push]; omega)) [r36_8, eqT, eqF, neT, neF, ltT, ltF, leT, leF, nltT, nltF, nleT, nleF, nneT, nneF, flipX, List.getElem?_cons_zero, List.getElem?_cons_succ, g1, ho', RV]
    refine Ans.of ⟨h.size, .slice none 0 0, ?_, ?_, (by first | omega | (simp only [newRow_size, Array.size_setIfInBounds, Array.size_push]; done) | (simp only [newRow_size, Array.size_setIfInBounds, Array.size_push]; omega)), (by first | omega | (simp only [newRow_size, Array.size_setIfInBounds, Array.size_push]; done) | (simp only [newRow_size, Array.size_setIfInBounds, Array.size_push]; omega)), ?_⟩
    · simp [takeM, c2, RV]
    · simp [takeM, c2, NotesAt]
    · intro c hc _
      simp (disch := first | omega | (simp only [newRow_size, Array.size_setIfInBounds, Array.size_push]; done) | (simp only [newRow_size, Array.size_setIfInBounds, Array.size_push]; omega)) [g1]
  · simp (disch := first | omega | (simp only [newRow_size, Array.size_setIfInBounds, Array.size_push]; done) | (simp only [newRow_size, Array.size_setIfInBounds, Array.size_push]; omega)) [r36_3, r36_6, r36_8, eqT, eqF, neT, neF, ltT, ltF, leT, leF, nltT, nltF, nleT, nleF, nneT, nneF, flipX, List.getElem?_cons_zero, List.getElem?_cons_succ, hs, ho, hz]
    refine Ans.of ⟨h.size, .slice none 0 0, ?_, ?_, (by first | omega | (simp only [newRow_size, Array.size_setIfInBounds, Array.size_push]; done) | (simp only [newRow_size, Array.size_setIfInBounds, Array.size_push]; omega)), (by first | omega | (simp only [newRow_size, Array.size_setIfInBounds, Array.size_push]; done) | (simp only [newRow_size, Array.size_setIfInBounds, Array.size_push]; omega)), ?_⟩
    · simp [takeM, c1, c2, RV]
    · simp [takeM, c1, c2, NotesAt]
    · intro c hc _
      simp (disch := first | omega | (simp only [newRow_size, Array.size_setIfInBounds, Array.size_push]; done) | (simp only [newRow_size, Array.size_setIfInBounds, Array.size_push]; omega)) []

end Go.Proofs.Ytefbpobeclkbhaa
