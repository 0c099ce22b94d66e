/- The program's view service: Take. -/
import Derived.Test.YtefbpobeclkbhaaVb4
set_option linter.unusedSimpArgs false
set_option linter.unusedVariables false
namespace Go.Proofs.Ytefbpobeclkbhaa
open Go.Ev

theorem SvAt.frame {h E : H} {b : Nat} {lk : Int} {r : Option Nat} {x : Sv} (s : SvAt h b lk r x) (k : Kept h E []) : SvAt E b lk r x := s.kept k (by simp) (by simp)

theorem row_kept (h : H) (cs : List Value) (es : Nat) (an : List Nat) : Kept h (Ev.newRow h cs es an) [] := ⟨by simp, fun c hc _ => by simp [hc]⟩
theorem push_kept (h : H) (x : Blk) : Kept h (h.push x) [] := ⟨by simp, fun c hc _ => by simp [hc]⟩

theorem f42_spec {F : Nat} (hF : 3 ≤ F) {h : H} {b : Nat} {r : Option Nat} {x : Sv} (s : SvAt h b 0 r x) (hmax : x.vs.length ≤ 1000) (fr : Int) (nc : List Value) :
    Ans (cf F 42 [.pointer (some ⟨b, 0, none⟩), .int .i64 fr, .agg ⟨nc⟩] h) fun v h' => ∃ q, NotesAt h' q (if x.now.num = 0 then none else some x.now) v ∧ h.size ≤ q ∧ Kept h h' [] := by
  generalize hQ : (fun (v : Value) (h' : H) => ∃ q, NotesAt h' q (if x.now.num = 0 then none else some x.now) v ∧ h.size ≤ q ∧ Kept h h' []) = Q
  obtain ⟨F, rfl⟩ : ∃ G, F = G + 1 := ⟨F - 1, by omega⟩
  rw [cf_step (a := a42) rfl rfl (by simp [a42])]
  simp (disch := first | omega | (simp only [newRow_size, Array.size_setIfInBounds, Array.size_push]; done) | (simp only [newRow_size, Array.size_setIfInBounds, Array.size_push]; omega)) [a42, r42_0, r42_1]
  refine Ans.next (Now_spec (by omega) (s.frame (row_kept _ _ _ _)) hmax) ?_
  rintro v h1 ⟨rfl, k1⟩
  have z1 := k1.1
  simp at z1
  have g1 := fun c => k1.get (b := c)
  simp only [List.not_mem_nil, not_false_eq_true, forall_const, newRow_size] at g1
  by_cases c : x.now.num = 0
  · simp (disch := first | omega | (simp only [newRow_size, Array.size_setIfInBounds, Array.size_push]; done) | (simp only [newRow_size, Array.size_setIfInBounds, Array.size_push]; omega)) [Vw.val, Vw.cells, r42_2, r42_3, eqT, eqF, neT, neF, ltT, ltF, leT, leF, nltT, nltF, nleT, nleF, nneT, nneF, flipX, List.getElem?_cons_zero, List.getElem?_cons_succ]
    refine Ans.of ?_
    subst hQ
    refine ⟨h.size, ?_, (by first | omega | (simp only [newRow_size, Array.size_setIfInBounds, Array.size_push]; done) | (simp only [newRow_size, Array.size_setIfInBounds, Array.size_push]; omega)), (by first | omega | (simp only [newRow_size, Array.size_setIfInBounds, Array.size_push]; done) | (simp only [newRow_size, Array.size_setIfInBounds, Array.size_push]; omega)), ?_⟩
    · rw [if_pos c]; rfl
    · intro c hc _
      simp (disch := first | omega | (simp only [newRow_size, Array.size_setIfInBounds, Array.size_push]; done) | (simp only [newRow_size, Array.size_setIfInBounds, Array.size_push]; omega)) [g1]
  · simp (disch := first | omega | (simp only [newRow_size, Array.size_setIfInBounds, Array.size_push]; done) | (simp only [newRow_size, Array.size_setIfInBounds, Array.size_push]; omega)) [Vw.val, Vw.cells, r42_2, r42_4, eqT, eqF, neT, neF, ltT, ltF, leT, leF, nltT, nltF, nleT, nleF, nneT, nneF, flipX, List.getElem?_cons_zero, List.getElem?_cons_succ]
    refine Ans.of ?_
    subst hQ
    refine ⟨h1.size + 1, ?_, (by first | omega | (simp only [newRow_size, Array.size_setIfInBounds, Array.size_push]; done) | (simp only [newRow_size, Array.size_setIfInBounds, Array.size_push]; omega)), (by first | omega | (simp only [newRow_size, Array.size_setIfInBounds, Array.size_push]; done) | (simp only [newRow_size, Array.size_setIfInBounds, Array.size_push]; omega)), ?_⟩
    · rw [if_neg c]
      refine ⟨rfl, ?_⟩
      simp (disch := first | omega | (simp only [newRow_size, Array.size_setIfInBounds, Array.size_push]; done) | (simp only [newRow_size, Array.size_setIfInBounds, Array.size_push]; omega)) [noteC]
    · intro c hc _
      simp (disch := first | omega | (simp only [newRow_size, Array.size_setIfInBounds, Array.size_push]; done) | (simp only [newRow_size, Array.size_setIfInBounds, Array.size_push]; omega)) [g1]

theorem f43_spec {F : Nat} (hF : 3 ≤ F) {h : H} {b : Nat} {r : Option Nat} {x : Sv} (s : SvAt h b 0 r x) (hmax : x.vs.length ≤ 1000) (fr kind num : Int) (rest : List Value) :
    Ans (cf F 43 [.pointer (some ⟨b, 0, none⟩), .int .i64 fr, .agg ⟨.int .i64 kind :: .int .i64 num :: rest⟩] h) fun v h' => v = .slice none 0 0 ∧ SvAt h' b 0 r (setl x num fr).2 ∧ Kept h h' [b] := by
  obtain ⟨F, rfl⟩ : ∃ G, F = G + 1 := ⟨F - 1, by omega⟩
  rw [cf_step (a := a43) rfl rfl (by simp [a43])]
  simp (disch := first | omega | (simp only [newRow_size, Array.size_setIfInBounds, Array.size_push]; done) | (simp only [newRow_size, Array.size_setIfInBounds, Array.size_push]; omega)) [a43, r43_0, r43_1, eqT, eqF, neT, neF, ltT, ltF, leT, leF, nltT, nltF, nleT, nleF, nneT, nneF, flipX, List.getElem?_cons_zero, List.getElem?_cons_succ]
  refine Ans.next (Settle_spec (F := F) (by omega) (s.frame (row_kept _ _ _ _)) hmax num fr) ?_
  rintro v h1 ⟨rfl, s1, k1⟩
  simp [r43_2]
  exact Ans.of ⟨rfl, s1, ((row_kept _ _ _ _).weak (by simp)).trans k1⟩

theorem Take_spec {F : Nat} (hF : 4 ≤ F) {h : H} {b : Nat} {r : Option Nat} {x : Sv} (s : SvAt h b 0 r x) (hmax : x.vs.length ≤ 1000) (fr kind num : Int) (rest : List Value) (hr : rest.length = 19) :
    Ans (cf F 19 [.pointer (some ⟨b, 0, none⟩), .int .i64 fr, .agg ⟨.int .i64 kind :: .int .i64 num :: rest⟩] h) (TakePost h b r x fr kind num) := by
  obtain ⟨F, rfl⟩ : ∃ G, F = G + 1 := ⟨F - 1, by omega⟩
  have hd := duties_in (F := F) (by omega)
  rw [cf_step (a := a19) rfl rfl (by simp [a19])]
  by_cases c1 : kind = 21
  · simp (disch := first | omega | (simp only [newRow_size, Array.size_setIfInBounds, Array.size_push]; done) | (simp only [newRow_size, Array.size_setIfInBounds, Array.size_push]; omega)) [a19, r19_0, d19_1, hd, eqT, eqF, neT, neF, ltT, ltF, leT, leF, nltT, nltF, nleT, nleF, nneT, nneF, flipX, List.getElem?_cons_zero, List.getElem?_cons_succ, dk_go, chks_nil, chks_cons, chkA_nil, chkA_cons, chk1_no, chk1_yes, chkV_some, hAt_eq, hOf_some, hOf_none, sameV, sameL, sameCell, r19_2, r19_3, r19_4]
    refine Ans.next (f42_spec (F := F) (by omega) (s.frame ⟨(by first | omega | (simp only [newRow_size, Array.size_setIfInBounds, Array.size_push]; done) | (simp only [newRow_size, Array.size_setIfInBounds, Array.size_push]; omega)), fun c hc _ => by simp (disch := first | omega | (simp only [newRow_size, Array.size_setIfInBounds, Array.size_push]; done) | (simp only [newRow_size, Array.size_setIfInBounds, Array.size_push]; omega)) []⟩) hmax fr _) ?_
    rintro v h1 ⟨q, n1, z1, k1⟩
    simp at z1
    simp
    refine Ans.of ⟨q, ?_, (by first | omega | (simp only [newRow_size, Array.size_setIfInBounds, Array.size_push]; done) | (simp only [newRow_size, Array.size_setIfInBounds, Array.size_push]; omega)), ?_, ?_⟩
    · simpa [takeM, c1] using n1
    · simp only [takeM, c1, if_true]
      exact (s.frame ⟨(by first | omega | (simp only [newRow_size, Array.size_setIfInBounds, Array.size_push]; done) | (simp only [newRow_size, Array.size_setIfInBounds, Array.size_push]; omega)), fun c hc _ => by simp (disch := first | omega | (simp only [newRow_size, Array.size_setIfInBounds, Array.size_push]; done) | (simp only [newRow_size, Array.size_setIfInBounds, Array.size_push]; omega)) []⟩).frame k1
    · exact Kept.trans ⟨(by first | omega | (simp only [newRow_size, Array.size_setIfInBounds, Array.size_push]; done) | (simp only [newRow_size, Array.size_setIfInBounds, Array.size_push]; omega)), fun c hc _ => by simp (disch := first | omega | (simp only [newRow_size, Array.size_setIfInBounds, Array.size_push]; done) | (simp only [newRow_size, Array.size_setIfInBounds, Array.size_push]; omega)) []⟩ (k1.weak (by simp))
  by_cases c2 : kind = 23
  · simp (disch := first | omega | (simp only [newRow_size, Array.size_setIfInBounds, Array.size_push]; done) | (simp only [newRow_size, Array.size_setIfInBounds, Array.size_push]; omega)) [a19, r19_0, d19_1, hd, eqT, eqF, neT, neF, ltT, ltF, leT, leF, nltT, nltF, nleT, nleF, nneT, nneF, flipX, List.getElem?_cons_zero, List.getElem?_cons_succ, dk_go, chks_nil, chks_cons, chkA_nil, chkA_cons, chk1_no, chk1_yes, chkV_some, hAt_eq, hOf_some, hOf_none, sameV, sameL, sameCell, r19_2, r19_3, r19_4]
    refine Ans.next (f43_spec (F := F) (by omega) (s.frame ⟨(by first | omega | (simp only [newRow_size, Array.size_setIfInBounds, Array.size_push]; done) | (simp only [newRow_size, Array.size_setIfInBounds, Array.size_push]; omega)), fun c hc _ => by simp (disch := first | omega | (simp only [newRow_size, Array.size_setIfInBounds, Array.size_push]; done) | (simp only [newRow_size, Array.size_setIfInBounds, Array.size_push]; omega)) []⟩) hmax fr _ _ _) ?_
    rintro v h1 ⟨rfl, s1, k1⟩
    have z1 := k1.1
    simp at z1
    simp
    refine Ans.of ⟨h.size, ?_, (by first | omega | (simp only [newRow_size, Array.size_setIfInBounds, Array.size_push]; done) | (simp only [newRow_size, Array.size_setIfInBounds, Array.size_push]; omega)), ?_, ?_⟩
    · simp [takeM, c2, NotesAt]
    · simpa [takeM, c2] using s1
    · exact Kept.trans ⟨(by first | omega | (simp only [newRow_size, Array.size_setIfInBounds, Array.size_push]; done) | (simp only [newRow_size, Array.size_setIfInBounds, Array.size_push]; omega)), fun c hc _ => by simp (disch := first | omega | (simp only [newRow_size, Array.size_setIfInBounds, Array.size_push]; done) | (simp only [newRow_size, Array.size_setIfInBounds, Array.size_push]; omega)) []⟩ k1
  · simp (disch := first | omega | (simp only [newRow_size, Array.size_setIfInBounds, Array.size_push]; done) | (simp only [newRow_size, Array.size_setIfInBounds, Array.size_push]; omega)) [a19, r19_0, d19_1, hd, eqT, eqF, neT, neF, ltT, ltF, leT, leF, nltT, nltF, nleT, nleF, nneT, nneF, flipX, List.getElem?_cons_zero, List.getElem?_cons_succ, dk_go, chks_nil, chks_cons, chkA_nil, chkA_cons, chk1_no, chk1_yes, chkV_some, hAt_eq, hOf_some, hOf_none, sameV, sameL, sameCell, r19_2, r19_3, r19_4]
    refine Ans.of ⟨h.size, ?_, (by first | omega | (simp only [newRow_size, Array.size_setIfInBounds, Array.size_push]; done) | (simp only [newRow_size, Array.size_setIfInBounds, Array.size_push]; omega)), ?_, ?_⟩
    · simp [takeM, c1, c2, NotesAt]
    · simp only [takeM, c1, c2, if_false]
      exact s.frame ⟨(by first | omega | (simp only [newRow_size, Array.size_setIfInBounds, Array.size_push]; done) | (simp only [newRow_size, Array.size_setIfInBounds, Array.size_push]; omega)), fun c hc _ => by simp (disch := first | omega | (simp only [newRow_size, Array.size_setIfInBounds, Array.size_push]; done) | (simp only [newRow_size, Array.size_setIfInBounds, Array.size_push]; omega)) []⟩
    · exact ⟨(by first | omega | (simp only [newRow_size, Array.size_setIfInBounds, Array.size_push]; done) | (simp only [newRow_size, Array.size_setIfInBounds, Array.size_push]; omega)), fun c hc _ => by simp (disch := first | omega | (simp only [newRow_size, Array.size_setIfInBounds, Array.size_push]; done) | (simp only [newRow_size, Array.size_setIfInBounds, Array.size_push]; omega)) []⟩

end Go.Proofs.Ytefbpobeclkbhaa
