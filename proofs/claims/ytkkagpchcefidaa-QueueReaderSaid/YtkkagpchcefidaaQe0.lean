/- QueueSound. -/
import Derived.Test.YtkkagpchcefidaaQb9
set_option linter.unusedSimpArgs false
set_option linter.unusedVariables false
namespace Go.Proofs.Ytkkagpchcefidaa
open Go.Ev

theorem Kept.low {h g g' : H} {L : List Nat} (k : Kept h g []) (k2 : Kept g g' L) (hL : ∀ c ∈ L, h.size ≤ c) : Kept h g' [] :=
  ⟨Nat.le_trans k.1 k2.1, fun c hc _ => (k2.get (Nat.lt_of_lt_of_le hc k.1) (fun q => by have := hL c q; omega)).trans (k.get hc (by simp))⟩

theorem next99 {q : Qm} (g : q.Good) : nextM q 99 = q.items := by
  have := g.len
  have := g.room
  unfold nextM
  exact List.take_of_length_le (by simp; omega)

theorem last_get {l : List Itm} : l[l.length - 1]? = l.getLast? := by
  rw [List.getLast?_eq_getElem?]

theorem queueSound_spec {F : Nat} (hF : 17592186044450 ≤ F) {h : H} (room begin' kk : Int) {v : Value} {script : List Stp} (s : SlR (fun b => b < h.size) 5 (StpC (fun b => b < h.size)) h v script) (hs : ∀ x ∈ script, x.Short) :
    Ans (cf F 10 [.int .i64 room, .int .i64 begin', v, .int .i64 kk] h) fun u h' => u = .bool true := by
  generalize hQ : (fun (u : Value) (h' : H) => u = Value.bool true) = Q
  obtain ⟨F, rfl⟩ : ∃ G, F = G + 1 := ⟨F - 1, by omega⟩
  rw [cf_step (a := a10) rfl rfl (by simp [a10])]
  have hl := s.len
  by_cases hroom : room < 1 ∨ 32 < room
  · simp (disch := first | omega | (simp only [newRow_size, Array.size_setIfInBounds, Array.size_push]; done) | (simp only [newRow_size, Array.size_setIfInBounds, Array.size_push]; omega)) [a10, r10_0, r10_1, New_bad1 (F := F) (by omega) h room begin' hroom, r10_2, num_eq (F := F) (by omega), r10_3, eqT, eqF, neT, neF, ltT, ltF, leT, leF, nltT, nltF, nleT, nleF, nneT, nneF, List.getElem?_cons_zero, List.getElem?_cons_succ]
    refine Ans.next (known_spec (F := F) (by omega) h) ?_
    rintro u h2 ⟨rfl, k2⟩
    simp (disch := first | omega | (simp only [newRow_size, Array.size_setIfInBounds, Array.size_push]; done) | (simp only [newRow_size, Array.size_setIfInBounds, Array.size_push]; omega)) []
    subst hQ
    exact Ans.of rfl
  by_cases hbeg : begin' < 0 ∨ 2147483647 < begin'
  · simp (disch := first | omega | (simp only [newRow_size, Array.size_setIfInBounds, Array.size_push]; done) | (simp only [newRow_size, Array.size_setIfInBounds, Array.size_push]; omega)) [a10, r10_0, r10_1, New_bad2 (F := F) (by omega) h room begin' (by omega) (by omega) hbeg, r10_2, num_eq (F := F) (by omega), r10_3, eqT, eqF, neT, neF, ltT, ltF, leT, leF, nltT, nltF, nleT, nleF, nneT, nneF, List.getElem?_cons_zero, List.getElem?_cons_succ]
    refine Ans.next (known_spec (F := F) (by omega) h) ?_
    rintro u h2 ⟨rfl, k2⟩
    simp (disch := first | omega | (simp only [newRow_size, Array.size_setIfInBounds, Array.size_push]; done) | (simp only [newRow_size, Array.size_setIfInBounds, Array.size_push]; omega)) []
    subst hQ
    exact Ans.of rfl
  simp (disch := first | omega | (simp only [newRow_size, Array.size_setIfInBounds, Array.size_push]; done) | (simp only [newRow_size, Array.size_setIfInBounds, Array.size_push]; omega)) [a10, r10_0, r10_1]
  refine Ans.next (New_spec (F := F) (by omega) h room begin' (by omega) (by omega) (by omega) (by omega)) ?_
  rintro v1 h1 ⟨b, r, rfl, s1, zb, zr, hb, hr, hbr, k1⟩
  have sQ := s1 (since h1.size) (by simp; omega) (by simp; omega)
  have y1 := k1.1
  simp (disch := first | omega | (simp only [newRow_size, Array.size_setIfInBounds, Array.size_push]; done) | (simp only [newRow_size, Array.size_setIfInBounds, Array.size_push]; omega)) [r10_2, num_eq (F := F) (by omega), eqT, eqF, neT, neF, ltT, ltF, leT, leF, nltT, nltF, nleT, nleF, nneT, nneF, List.getElem?_cons_zero, List.getElem?_cons_succ, r10_4, r10_5]
  refine loop_rule (fun m e g => ∃ (i first : Nat) (q : Qm), m = 150 - i ∧ i ≤ 150 ∧ e = [(0, .int .i64 room), (2, v), (3, .int .i64 kk), (9, .pointer (some ⟨b, 0, none⟩)), (11, .int .i64 q.last), (12, .int .i64 i)] ∧ QAt (since h1.size) g b 0 (some r) first q ∧ q.Good ∧ q.Sound ∧ (q.room : Int) = room ∧ ShortI q.items ∧ Kept h g [] ∧ h1.size ≤ g.size) ?_ _ 150 _ _ (by omega) ⟨0, 0, Qm.new room begin', by omega, by omega, rfl, sQ, Qm.Good.new (by omega) (by omega) (by omega) (by omega), Qm.Sound.new _ _, by simp [Qm.new]; omega, by simp [Qm.new, ShortI], k1, Nat.le_refl _⟩
  rintro m e g again ⟨i, first, q, rfl, hi, rfl, sq, gq, soq, hrq, shq, kg, yg⟩ ih
  have hw1 : IntKind.i64.wrap ((i : Int) + 1) = ((i + 1 : Nat) : Int) := by rw [wrap_id (by omega) (by omega)]; rfl
  by_cases hlt : i < script.length ∧ i < 150
  · obtain ⟨x, hx⟩ : ∃ x, script[i]? = some x := ⟨_, List.getElem?_eq_getElem hlt.1⟩
    have sg := SlR.imp s (ok' := fun b => b < h.size) (R' := StpC (fun b => b < h.size)) (h' := g) (fun _ _ q => q) (fun cs x _ q => StpC.imp q (fun _ _ q => q) (keep_of kg.c (by simp))) (keep_of kg.c (by simp))
    obtain ⟨b', o, c, cs, es, lv, an, rfl, hk, hg, hle, hx5⟩ := sg.at' hx
    have hcl : ((cs.drop (o + i * 5)).take 5).length = 5 := by simp; omega
    simp (disch := first | omega | (simp only [newRow_size, Array.size_setIfInBounds, Array.size_push]; done) | (simp only [newRow_size, Array.size_setIfInBounds, Array.size_push]; omega)) [l10_15, r10_6, r10_7, hg, hl, eqT, eqF, neT, neF, ltT, ltF, leT, leF, nltT, nltF, nleT, nleF, nneT, nneF, List.getElem?_cons_zero, List.getElem?_cons_succ]
    have hxs := hs x (List.mem_of_getElem? hx)
    refine Ans.next (step_spec (F := F) (by omega) sq gq hx5 (by simp; omega) (by rintro c e; cases e; simp; omega) hxs (fun c hc => by show h1.size ≤ c; omega)) ?_
    rintro u h2 ⟨rfl, f2, s2, k2⟩
    have g2 := gq.step x
    have so2 := soq.step gq x
    have hr2 := stepM_room q x
    have hl2 := stepM_last q x
    have sh2 := stepM_short shq gq x hxs
    have ks2 := Kept.low kg k2 (by simp; omega)
    have y2 := k2.1
    generalize stepM q x = q2 at s2 g2 so2 hr2 hl2 sh2
    simp (disch := first | omega | (simp only [newRow_size, Array.size_setIfInBounds, Array.size_push]; done) | (simp only [newRow_size, Array.size_setIfInBounds, Array.size_push]; omega)) [r10_8]
    refine Ans.next (Next_spec (F := F) (by omega) s2 g2 sh2 99) ?_
    rintro vl h3 ⟨b3, s3, k3⟩
    rw [next99 g2] at b3
    have y3 := k3.1
    have ks3 := Kept.low ks2 k3 (by simp; omega)
    simp (disch := first | omega | (simp only [newRow_size, Array.size_setIfInBounds, Array.size_push]; done) | (simp only [newRow_size, Array.size_setIfInBounds, Array.size_push]; omega)) [r10_9]
    refine Ans.next (Next_spec (F := F) (by omega) s3 g2 sh2 kk) ?_
    rintro vm h4 ⟨b4, s4, k4⟩
    have y4 := k4.1
    have ks4 := Kept.low ks3 k4 (by simp; omega)
    have l3 := b3.sl.len
    have hN : (nextM q2 kk).length = min kk.toNat q2.items.length := by simp [nextM]
    have hm2 : (if (q2.items.length : Int) < (if kk < 0 then (0 : Int) else kk) then (q2.items.length : Int) else if kk < 0 then (0 : Int) else kk) = ((nextM q2 kk).length : Int) := by
      split <;> split at * <;> omega
    have nb : ∀ c ∈ [b], ¬ since h2.size c := by simp; omega
    have sl4 := SlItm.imp b3.sl (ok' := since h2.size) (fun _ _ q => q) (keep_of k4.c nb)
    obtain ⟨vs, es1, ss1⟩ := b3.take (n := (nextM q2 kk).length) (by omega)
    have htk : q2.items.take (nextM q2 kk).length = nextM q2 kk := by
      rw [hN, nextM]
      rcases Nat.le_total kk.toNat q2.items.length with e | e
      · rw [Nat.min_eq_left e]
      · rw [Nat.min_eq_right e, List.take_of_length_le (Nat.le_refl _), List.take_of_length_le e]
    rw [htk] at ss1
    have ss4 := SlItm.imp ss1 (ok' := since h2.size) (fun _ _ q => q) (keep_of k4.c nb)
    have gl2 := g2.len
    have gr2 := g2.room
    simp (disch := first | omega | (simp only [newRow_size, Array.size_setIfInBounds, Array.size_push]; done) | (simp only [newRow_size, Array.size_setIfInBounds, Array.size_push]; omega)) [r10_10, l3, hm2, eqT, eqF, neT, neF, ltT, ltF, leT, leF, nltT, nltF, nleT, nleF, nneT, nneF, List.getElem?_cons_zero, List.getElem?_cons_succ, r10_11, Last_eq (F := F) (by omega) s4, Len_eq (F := F) (by omega) s4]
    refine Ans.next (sound_spec (F := F) (by omega) sl4 room q2.last (by omega) (by omega) (so2.list g2) (fun y hy => so2.last y (by rw [last_get] at hy; exact hy))) ?_
    rintro u h5 ⟨rfl, k5⟩
    have y5 := k5.1
    simp (disch := first | omega | (simp only [newRow_size, Array.size_setIfInBounds, Array.size_push]; done) | (simp only [newRow_size, Array.size_setIfInBounds, Array.size_push]; omega)) [es1]
    have shN : ShortI (nextM q2 kk) := ⟨by omega, fun t ht => sh2.2 t (List.mem_of_mem_take ht)⟩
    refine Ans.next (items_same (F := F) (by omega) (SlItm.imp b4.sl (ok' := since h3.size) (fun _ _ q => q) (keep_of k5.c (by simp))) (SlItm.imp ss4 (ok' := since h2.size) (fun _ _ q => q) (keep_of k5.c (by simp))) shN) ?_
    rintro u h6 ⟨rfl, k6⟩
    have y6 := k6.1
    have s6 := (s4.frame k5).frame k6
    simp (disch := first | omega | (simp only [newRow_size, Array.size_setIfInBounds, Array.size_push]; done) | (simp only [newRow_size, Array.size_setIfInBounds, Array.size_push]; omega)) [r10_13, Last_eq (F := F) (by omega) s6, r10_14, hw1]
    exact ih (150 - (i + 1)) _ _ (by omega) ⟨i + 1, f2, q2, rfl, by omega, rfl, s6, g2, so2, by rw [hr2]; exact hrq, sh2, (ks4.trans k5).trans k6, by omega⟩
  · have hf : ∀ (Q' : Value → H → Prop), True := fun _ => trivial
    by_cases h1' : i < script.length
    · simp (disch := first | omega | (simp only [newRow_size, Array.size_setIfInBounds, Array.size_push]; done) | (simp only [newRow_size, Array.size_setIfInBounds, Array.size_push]; omega)) [l10_15, r10_6, hl, eqT, eqF, neT, neF, ltT, ltF, leT, leF, nltT, nltF, nleT, nleF, nneT, nneF, List.getElem?_cons_zero, List.getElem?_cons_succ, r10_16]
      refine Ans.next (known_spec (F := F) (by omega) g) ?_
      rintro u h2 ⟨rfl, k2⟩
      simp (disch := first | omega | (simp only [newRow_size, Array.size_setIfInBounds, Array.size_push]; done) | (simp only [newRow_size, Array.size_setIfInBounds, Array.size_push]; omega)) []
      subst hQ
      exact Ans.of rfl
    · simp (disch := first | omega | (simp only [newRow_size, Array.size_setIfInBounds, Array.size_push]; done) | (simp only [newRow_size, Array.size_setIfInBounds, Array.size_push]; omega)) [l10_15, r10_6, hl, eqT, eqF, neT, neF, ltT, ltF, leT, leF, nltT, nltF, nleT, nleF, nneT, nneF, List.getElem?_cons_zero, List.getElem?_cons_succ, r10_16]
      refine Ans.next (known_spec (F := F) (by omega) g) ?_
      rintro u h2 ⟨rfl, k2⟩
      simp (disch := first | omega | (simp only [newRow_size, Array.size_setIfInBounds, Array.size_push]; done) | (simp only [newRow_size, Array.size_setIfInBounds, Array.size_push]; omega)) []
      subst hQ
      exact Ans.of rfl

end Go.Proofs.Ytkkagpchcefidaa
