/- The program's view service: Now, Settled, Settle, Promote, New, All. -/
import Derived.Test.YtefbpobeclkbhaaVb1
set_option linter.unusedSimpArgs false
set_option linter.unusedVariables false
namespace Go.Proofs.Ytefbpobeclkbhaa
open Go.Ev

theorem lock_eq {F : Nat} (hF : 1 ≤ F) (args : List Value) (h : H) : cf F 27 args h = flipX 0 1 args h := by
  obtain ⟨F, rfl⟩ : ∃ G, F = G + 1 := ⟨F - 1, by omega⟩
  exact cf_X rfl
theorem unlock_eq {F : Nat} (hF : 1 ≤ F) (args : List Value) (h : H) : cf F 28 args h = flipX 1 0 args h := by
  obtain ⟨F, rfl⟩ : ∃ G, F = G + 1 := ⟨F - 1, by omega⟩
  exact cf_X rfl
@[simp] theorem dunlock_eq (args : List Value) (h : H) : cfX XD 28 args h = flipX 1 0 args h := rfl
theorem node_in {F : Nat} (hF : 1 ≤ F) (v w : Value) (h : H) : cf F 30 [v, w] h = evC (F - 1) (cf (F - 1)) a30.body (endK (cfX XD) a30.results) noK (endK (cfX XD) a30.results) [(0, v), (1, w)] h [] := by
  obtain ⟨F, rfl⟩ : ∃ G, F = G + 1 := ⟨F - 1, by omega⟩
  exact cf_step (a := a30) rfl rfl (by simp [a30])

theorem Settled_spec {F : Nat} (hF : 2 ≤ F) {h : H} {b : Nat} {r : Option Nat} {x : Sv} (s : SvAt h b 0 r x) :
    Ans (cf F 18 [.pointer (some ⟨b, 0, none⟩)] h) fun v h' => v = .bool x.st ∧ Kept h h' [] := by
  obtain ⟨F, rfl⟩ : ∃ G, F = G + 1 := ⟨F - 1, by omega⟩
  have hb := s.at'
  have hbs := lt_of_get hb
  rw [cf_step (a := a18) rfl rfl (by simp [a18])]
  simp [a18, r18_0, r18_1, r18_2, r18_3, r18_4, r18_5, hb, hbs, scells, lock_eq (F := F) (by omega), flipX]
  refine Ans.of ⟨rfl, by simp, ?_⟩
  intro c hc _
  by_cases e : b = c
  · subst e; simp [hbs, hb, scells]
  · simp [e]

theorem Now_spec {F : Nat} (hF : 2 ≤ F) {h : H} {b : Nat} {r : Option Nat} {x : Sv} (s : SvAt h b 0 r x) (hmax : x.vs.length ≤ 1000) :
    Ans (cf F 13 [.pointer (some ⟨b, 0, none⟩)] h) fun v h' => v = x.now.val ∧ Kept h h' [] := by
  obtain ⟨F, rfl⟩ : ∃ G, F = G + 1 := ⟨F - 1, by omega⟩
  have hb := s.at'
  have hbs := lt_of_get hb
  rw [cf_step (a := a13) rfl rfl (by simp [a13])]
  simp [a13, r13_0, r13_1, r13_2, r13_3, r13_4, r13_5, hb, hbs, scells, lock_eq (F := F) (by omega), flipX]
  refine Ans.next (now_spec (by omega) (lk := 1) (r := r) (x := x) ⟨by simp [hbs, lt_far hbs, scells], ?_, s.ne⟩ hmax) ?_
  · refine s.vs.kept (L := [b]) ⟨by simp, ?_⟩ ?_
    · intro c hc hn
      rw [List.mem_singleton] at hn
      have hn' : ¬ b = c := fun e => hn e.symm
      simp [hc, hn']
    · intro q e hm
      simp at hm
      subst hm
      exact s.ne e
  rintro v h1 ⟨rfl, k1⟩
  have z1 := k1.1
  simp at z1
  have g1 := fun c => k1.get (b := c)
  simp only [List.not_mem_nil, not_false_eq_true, forall_const, Array.size_setIfInBounds, newRow_size] at g1
  simp (disch := first | omega | (simp only [newRow_size, Array.size_setIfInBounds, Array.size_push]; done) | (simp only [newRow_size, Array.size_setIfInBounds, Array.size_push]; omega)) [Vw.val, Vw.cells, g1, scells, flipX]
  refine Ans.of ?_
  refine ⟨rfl, by simp; omega, ?_⟩
  intro c hc _
  by_cases e : b = c
  · subst e; simp (disch := first | omega | (simp only [newRow_size, Array.size_setIfInBounds, Array.size_push]; done) | (simp only [newRow_size, Array.size_setIfInBounds, Array.size_push]; omega)) [hb, scells]
  · simp (disch := first | omega | (simp only [newRow_size, Array.size_setIfInBounds, Array.size_push]; done) | (simp only [newRow_size, Array.size_setIfInBounds, Array.size_push]; omega)) [g1]

end Go.Proofs.Ytefbpobeclkbhaa
