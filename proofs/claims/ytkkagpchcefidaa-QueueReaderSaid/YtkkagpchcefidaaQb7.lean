/- The answers that the document fixes: known. -/
import Derived.Test.YtkkagpchcefidaaQb6
set_option linter.unusedSimpArgs false
set_option linter.unusedVariables false
namespace Go.Proofs.Ytkkagpchcefidaa
open Go.Ev

theorem num_eq {F : Nat} (hF : 1 ≤ F) (h : H) (e : Int) : cf F 17 [.int .i64 e] h = some (.int .i64 e, h) := by
  obtain ⟨F, rfl⟩ : ∃ G, F = G + 1 := ⟨F - 1, by omega⟩
  rw [cf_step (a := a17) rfl rfl (by simp [a17])]
  simp (disch := first | omega | (simp only [newRow_size, Array.size_setIfInBounds, Array.size_push]; done) | (simp only [newRow_size, Array.size_setIfInBounds, Array.size_push]; omega)) [a17, r17_0, r17_1]

def tagOf (p : ByteArray) : Tgd := ⟨⟨1, p, ⟨#[]⟩, 0⟩, [1]⟩

theorem tag_spec {F : Nat} (hF : 1 ≤ F) (h : H) (p : ByteArray) : Ans (cf F 34 [.string p] h) fun v h' => SlR (since h.size) 5 (TgdC (since h.size)) h' v [tagOf p] ∧ Kept h h' [] := by
  obtain ⟨F, rfl⟩ : ∃ G, F = G + 1 := ⟨F - 1, by omega⟩
  rw [cf_step (a := a34) rfl rfl (by simp [a34])]
  simp (disch := first | omega | (simp only [newRow_size, Array.size_setIfInBounds, Array.size_push]; done) | (simp only [newRow_size, Array.size_setIfInBounds, Array.size_push]; omega)) [a34, r34_0, r34_1]
  refine Ans.of ⟨.inr ⟨h.size + 1, 0, 1, [.int .i64 1, .string p, .string ⟨#[]⟩, .int .i64 0, .slice (some ⟨h.size, 0, none⟩) 1 1], rfl, by simp, by show h.size ≤ h.size + 1; omega, cel_of (es := 5) (lv := true) (an := []) (by simp (disch := first | omega | (simp only [newRow_size, Array.size_setIfInBounds, Array.size_push]; done) | (simp only [newRow_size, Array.size_setIfInBounds, Array.size_push]; omega)) []), ?_⟩, (by first | omega | (simp only [newRow_size, Array.size_setIfInBounds, Array.size_push]; done) | (simp only [newRow_size, Array.size_setIfInBounds, Array.size_push]; omega)), fun c hc _ => by simp (disch := first | omega | (simp only [newRow_size, Array.size_setIfInBounds, Array.size_push]; done) | (simp only [newRow_size, Array.size_setIfInBounds, Array.size_push]; omega)) []⟩
  intro i x hx
  cases i with
  | succ i => simp at hx
  | zero =>
    simp at hx
    subst hx
    refine ⟨by simp, .slice (some ⟨h.size, 0, none⟩) 1 1, by simp [tagOf], .inr ⟨h.size, 0, 1, [.int .i64 1], rfl, by simp [tagOf], Nat.le_refl _, cel_of (es := 1) (lv := true) (an := []) (by simp (disch := first | omega | (simp only [newRow_size, Array.size_setIfInBounds, Array.size_push]; done) | (simp only [newRow_size, Array.size_setIfInBounds, Array.size_push]; omega)) []), ?_⟩⟩
    intro i x hx
    cases i with
    | succ i => simp [tagOf] at hx
    | zero =>
      simp [tagOf] at hx
      subst hx
      exact ⟨by simp, by simp [IntC]⟩

theorem tag_short (p : ByteArray) : ShortT [tagOf p] := ⟨by simp, by simp [tagOf]⟩

def q1 : Qm := ⟨1, [⟨7, 5, false, [tagOf str47_97], []⟩], 7⟩
theorem q1_eq : putM (Qm.new 1 5) 7 [tagOf str47_97] = (0, q1) := by simp [putM, fitsM, Qm.new, tagOf, q1]
theorem q1_put : putM q1 9 [tagOf str47_98] = (46, q1) := by simp [putM, fitsM, tagOf, q1]
theorem q1_next : nextM q1 9 = q1.items := by simp [nextM, q1]
theorem q1_took : tookM q1 7 = (1, ⟨1, [], 7⟩) := by simp [tookM, q1, List.takeWhile, List.dropWhile]
theorem q1_good : q1.Good := by
  have := (Qm.Good.new (room := 1) (b := 5) (by omega) (by omega) (by omega) (by omega)).put 7 [tagOf str47_97]
  rwa [q1_eq] at this

set_option maxHeartbeats 1000000 in
theorem known_spec {F : Nat} (hF : 17592186044440 ≤ F) (h : H) : Ans (cf F 18 [] h) fun u h' => u = .bool true ∧ Kept h h' [] := by
  generalize hQ : (fun (u : Value) (h' : H) => u = .bool true ∧ Kept h h' []) = Q
  obtain ⟨F, rfl⟩ : ∃ G, F = G + 1 := ⟨F - 1, by omega⟩
  rw [cf_step (a := a18) rfl rfl (by simp [a18])]
  simp (disch := first | omega | (simp only [newRow_size, Array.size_setIfInBounds, Array.size_push]; done) | (simp only [newRow_size, Array.size_setIfInBounds, Array.size_push]; omega)) [a18, r18_0, r18_1]
  refine Ans.next (New_spec (F := F) (by omega) h 1 5 (by omega) (by omega) (by omega) (by omega)) ?_
  rintro v h1 ⟨b, r, rfl, s, zb, zr, hb, hr, hbr, k1⟩
  have s1 := s (since h1.size) (by simp; omega) (by simp; omega)
  simp (disch := first | omega | (simp only [newRow_size, Array.size_setIfInBounds, Array.size_push]; done) | (simp only [newRow_size, Array.size_setIfInBounds, Array.size_push]; omega)) [r18_2, New_bad1 (F := F) (by omega) h1 0 (-1) (by omega), r18_3, num_eq (F := F) (by omega), eqT, eqF, neT, neF, ltT, ltF, leT, leF, nltT, nltF, nleT, nleF, nneT, nneF, List.getElem?_cons_zero, List.getElem?_cons_succ, r18_5]
  refine Ans.next (tag_spec (F := F) (by omega) h1 str47_97) ?_
  rintro v2 h2 ⟨t2, k2⟩
  have y2 := k2.1
  simp (disch := first | omega | (simp only [newRow_size, Array.size_setIfInBounds, Array.size_push]; done) | (simp only [newRow_size, Array.size_setIfInBounds, Array.size_push]; omega)) []
  refine Ans.next (Put_spec (F := F) (by omega) (s1.frame k2) (Qm.Good.new (by omega) (by omega) (by omega) (by omega)) t2 (by simp; omega) (tag_short _) (fun c hc => by show h1.size ≤ c; omega) 7) ?_
  rw [q1_eq]
  rintro v3 h3 ⟨rfl, s3, k3⟩
  have y3 := k3.1
  simp (disch := first | omega | (simp only [newRow_size, Array.size_setIfInBounds, Array.size_push]; done) | (simp only [newRow_size, Array.size_setIfInBounds, Array.size_push]; omega)) [r18_6]
  refine Ans.next (tag_spec (F := F) (by omega) h3 str47_98) ?_
  rintro v4 h4 ⟨t4, k4⟩
  have y4 := k4.1
  simp (disch := first | omega | (simp only [newRow_size, Array.size_setIfInBounds, Array.size_push]; done) | (simp only [newRow_size, Array.size_setIfInBounds, Array.size_push]; omega)) []
  refine Ans.next (Put_spec (F := F) (by omega) (s3.frame k4) q1_good t4 (by simp; omega) (tag_short _) (fun c hc => by show h1.size ≤ c; omega) 9) ?_
  rw [q1_put]
  rintro v5 h5 ⟨rfl, s5, k5⟩
  have y5 := k5.1
  simp (disch := first | omega | (simp only [newRow_size, Array.size_setIfInBounds, Array.size_push]; done) | (simp only [newRow_size, Array.size_setIfInBounds, Array.size_push]; omega)) [r18_7]
  refine Ans.next (Next_spec (F := F) (by omega) s5 q1_good ⟨by simp [q1], by simp [q1, tag_short, ShortP]⟩ 9) ?_
  rintro v6 h6 ⟨b6, s6, k6⟩
  rw [q1_next] at b6
  have hl := b6.sl.len
  obtain ⟨b', o, c, cs, es, lv, an, rfl, hk, hg, hle, hI⟩ := b6.sl.at' (i := 0) rfl
  obtain ⟨_, _, _, e0, e1, _⟩ := id_at hI hle
  have hlen : q1.items.length = 1 := rfl
  have y6 := k6.1
  simp only [Nat.zero_mul, Nat.add_zero] at e0 e1
  simp (disch := first | omega | (simp only [newRow_size, Array.size_setIfInBounds, Array.size_push]; done) | (simp only [newRow_size, Array.size_setIfInBounds, Array.size_push]; omega)) [r18_8, num_eq (F := F) (by omega), hl, hlen, hg, e0, e1, eqT, eqF, neT, neF, ltT, ltF, leT, leF, nltT, nltF, nleT, nleF, nneT, nneF, List.getElem?_cons_zero, List.getElem?_cons_succ]
  refine Ans.next (Took_spec (F := F) (by omega) s6 q1_good 7) ?_
  rw [q1_took]
  rintro v7 h7 ⟨rfl, f7, s7, k7⟩
  simp (disch := first | omega | (simp only [newRow_size, Array.size_setIfInBounds, Array.size_push]; done) | (simp only [newRow_size, Array.size_setIfInBounds, Array.size_push]; omega)) [Len_eq (F := F) (by omega) s7, Last_eq (F := F) (by omega) s7, eqT, eqF, neT, neF, ltT, ltF, leT, leF, nltT, nltF, nleT, nleF, nneT, nneF, List.getElem?_cons_zero, List.getElem?_cons_succ]
  have kA : Kept h1 h7 (b :: (some r).toList) := k2.of_nil.trans (k3.trans (k4.of_nil.trans (k5.trans ((k6.weak (by simp)).trans k7))))
  subst hQ
  refine Ans.of ⟨rfl, by have := k1.1; have := kA.1; omega, fun c hc _ => (kA.get (by have := k1.1; omega) ?_).trans (k1.get hc (by simp))⟩
  simp; omega

end Go.Proofs.Ytkkagpchcefidaa
