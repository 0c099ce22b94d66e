/- QueueOrder. -/
import Derived.Test.YtkkagpchcefidaaQe2
set_option linter.unusedSimpArgs false
set_option linter.unusedVariables false
namespace Go.Proofs.Ytkkagpchcefidaa
open Go.Ev

set_option maxHeartbeats 2000000 in
theorem rst_spec {F : Nat} (hF : 17592186044440 ≤ F) {h : H} {N b r : Nat} {room : Int} {g : H} {u : Value} {q : Qm} {f : Nat} (o : Ord h N b r room g u q f)
    {v : Value} {i : Nat} {e0 : Env} {kn kr : K} {ke : Nat → K} {Q : Value → H → Prop}
    (hk : ∀ g2 a c d, Ord h N b r room g2 u q f → Ans (kn [(0, .int .i64 room), (2, v), (7, .pointer (some ⟨b, 0, none⟩)), (9, u), (10, .int .i64 i), (14, a), (15, c), (163, d)] g2 []) Q) :
    Ans (evC F (cf F) rst kn ke kr ((0, .int .i64 room) :: (2, v) :: (7, .pointer (some ⟨b, 0, none⟩)) :: (9, u) :: (10, .int .i64 i) :: e0) g []) Q := by
  have hbh := o.bh
  have hrh := o.rh
  have hbl := o.bl
  have hrl := o.rl
  have hhN := o.hN
  have hyg := o.yg
  have hul := o.us.sl.len
  rw [List.length_map] at hul
  have hgl := o.gq.len
  have hgr := o.gq.room
  simp (disch := first | omega | (simp only [newRow_size, Array.size_setIfInBounds, Array.size_push]; done) | (simp only [newRow_size, Array.size_setIfInBounds, Array.size_push]; omega)) [rst, r11_28]
  refine Ans.next (Next_spec (F := F) (by omega) o.sq o.gq o.sh 99) ?_
  rintro vl g2 ⟨b2, s2, k2⟩
  rw [next99 o.gq] at b2
  have y2 := k2.1
  have hl2 := b2.sl.len
  have u2 := o.us.kept k2 (by simp; omega) (fun _ _ _ e => e)
  have oo : Ord h N b r room g2 u q f := ⟨s2, o.gq, o.rm, o.sh, Kept.low o.kg k2 (by simp; omega), by omega, u2, hbh, hrh, hbl, hrl, hhN⟩
  simp (disch := first | omega | (simp only [newRow_size, Array.size_setIfInBounds, Array.size_push]; done) | (simp only [newRow_size, Array.size_setIfInBounds, Array.size_push]; omega)) [r11_29, hl2, hul, eqT, eqF, neT, neF, ltT, ltF, leT, leF, nltT, nltF, nleT, nleF, nneT, nneF, List.getElem?_cons_zero, List.getElem?_cons_succ, r11_31]
  refine loop_rule (fun m e k => ∃ (j : Nat), m = q.items.length - j ∧ j ≤ q.items.length ∧ e = [(0, .int .i64 room), (2, v), (7, .pointer (some ⟨b, 0, none⟩)), (9, u), (10, .int .i64 i), (14, vl), (15, .int .i64 j)] ∧ k = g2) ?_ _ q.items.length _ _ (by omega) ⟨0, by omega, by omega, rfl, rfl⟩
  rintro m e k again ⟨j, rfl, hj, rfl, rfl⟩ ih
  by_cases hlt : j < q.items.length
  · obtain ⟨y, hy⟩ : ∃ y, q.items[j]? = some y := ⟨_, List.getElem?_eq_getElem hlt⟩
    have hy' : (q.items.map (·.stamp))[j]? = some y.stamp := by rw [List.getElem?_map, hy]; rfl
    obtain ⟨b', o', c', cs, es, lv, an, eu, hk', hg', hle', hR⟩ := u2.sl.at' hy'
    rw [List.length_map] at eu
    simp only [Nat.mul_one, IntC] at hle' hR
    obtain ⟨b3, o3, c3, cs3, es3, lv3, an3, el, hk3, hg3, hle3, hI3⟩ := b2.sl.at' hy
    obtain ⟨_, _, _, p0, _⟩ := id_at hI3 hle3
    have hw1 : IntKind.i64.wrap ((j : Int) + 1) = ((j + 1 : Nat) : Int) := by rw [wrap_id (by omega) (by omega)]; rfl
    simp (disch := first | omega | (simp only [newRow_size, Array.size_setIfInBounds, Array.size_push]; done) | (simp only [newRow_size, Array.size_setIfInBounds, Array.size_push]; omega)) [l11_36, r11_32, hl2, eqT, eqF, neT, neF, ltT, ltF, leT, leF, nltT, nltF, nleT, nleF, nneT, nneF, List.getElem?_cons_zero, List.getElem?_cons_succ, d11_33]
    simp (disch := first | omega | (simp only [newRow_size, Array.size_setIfInBounds, Array.size_push]; done) | (simp only [newRow_size, Array.size_setIfInBounds, Array.size_push]; omega)) [eu, el, hg', hR, hg3, p0, eqT, eqF, neT, neF, ltT, ltF, leT, leF, nltT, nltF, nleT, nleF, nneT, nneF, List.getElem?_cons_zero, List.getElem?_cons_succ, r11_35, hw1]
    exact ih (q.items.length - (j + 1)) _ _ (by omega) ⟨j + 1, rfl, by omega, by rw [eu, el]; simp, rfl⟩
  · simp (disch := first | omega | (simp only [newRow_size, Array.size_setIfInBounds, Array.size_push]; done) | (simp only [newRow_size, Array.size_setIfInBounds, Array.size_push]; omega)) [l11_36, r11_32, hl2, eqT, eqF, neT, neF, ltT, ltF, leT, leF, nltT, nltF, nleT, nleF, nneT, nneF, List.getElem?_cons_zero, List.getElem?_cons_succ]
    exact hk _ _ _ _ oo

theorem queueOrder_spec {F : Nat} (hF : 17592186044450 ≤ F) {h : H} (room begin' : Int) {v : Value} {script : List Stp} (s : SlR (fun b => b < h.size) 5 (StpC (fun b => b < h.size)) h v script) (hs : ∀ x ∈ script, x.Short) :
    Ans (cf F 11 [.int .i64 room, .int .i64 begin', v] h) fun u h' => u = .bool true := by
  generalize hQ : (fun (u : Value) (h' : H) => u = Value.bool true) = Q
  have hq : ∀ h', Q (.bool true) h' := by subst hQ; exact fun _ => rfl
  obtain ⟨F, rfl⟩ : ∃ G, F = G + 1 := ⟨F - 1, by omega⟩
  rw [cf_step (a := a11) rfl rfl (by simp [a11])]
  have hl := s.len
  by_cases hroom : room < 1 ∨ 32 < room
  · simp (disch := first | omega | (simp only [newRow_size, Array.size_setIfInBounds, Array.size_push]; done) | (simp only [newRow_size, Array.size_setIfInBounds, Array.size_push]; omega)) [a11, r11_0, r11_1, New_bad1 (F := F) (by omega) h room begin' hroom, r11_2, num_eq (F := F) (by omega), r11_3, eqT, eqF, neT, neF, ltT, ltF, leT, leF, nltT, nltF, nleT, nleF, nneT, nneF, List.getElem?_cons_zero, List.getElem?_cons_succ]
    refine Ans.next (known_spec (F := F) (by omega) h) ?_
    rintro u h2 ⟨rfl, k2⟩
    simp (disch := first | omega | (simp only [newRow_size, Array.size_setIfInBounds, Array.size_push]; done) | (simp only [newRow_size, Array.size_setIfInBounds, Array.size_push]; omega)) []
    exact Ans.of (hq _)
  by_cases hbeg : begin' < 0 ∨ 2147483647 < begin'
  · simp (disch := first | omega | (simp only [newRow_size, Array.size_setIfInBounds, Array.size_push]; done) | (simp only [newRow_size, Array.size_setIfInBounds, Array.size_push]; omega)) [a11, r11_0, r11_1, New_bad2 (F := F) (by omega) h room begin' (by omega) (by omega) hbeg, r11_2, num_eq (F := F) (by omega), r11_3, eqT, eqF, neT, neF, ltT, ltF, leT, leF, nltT, nltF, nleT, nleF, nneT, nneF, List.getElem?_cons_zero, List.getElem?_cons_succ]
    refine Ans.next (known_spec (F := F) (by omega) h) ?_
    rintro u h2 ⟨rfl, k2⟩
    simp (disch := first | omega | (simp only [newRow_size, Array.size_setIfInBounds, Array.size_push]; done) | (simp only [newRow_size, Array.size_setIfInBounds, Array.size_push]; omega)) []
    exact Ans.of (hq _)
  simp (disch := first | omega | (simp only [newRow_size, Array.size_setIfInBounds, Array.size_push]; done) | (simp only [newRow_size, Array.size_setIfInBounds, Array.size_push]; omega)) [a11, r11_0, r11_1]
  refine Ans.next (New_spec (F := F) (by omega) h room begin' (by omega) (by omega) (by omega) (by omega)) ?_
  rintro v1 h1 ⟨b, r, rfl, s1, zb, zr, hb, hr, hbr, k1⟩
  have sQ := s1 (since h1.size) (by simp; omega) (by simp; omega)
  have y1 := k1.1
  simp (disch := first | omega | (simp only [newRow_size, Array.size_setIfInBounds, Array.size_push]; done) | (simp only [newRow_size, Array.size_setIfInBounds, Array.size_push]; omega)) [r11_2, num_eq (F := F) (by omega), eqT, eqF, neT, neF, ltT, ltF, leT, leF, nltT, nltF, nleT, nleF, nneT, nneF, List.getElem?_cons_zero, List.getElem?_cons_succ, r11_4, r11_5]
  refine loop_rule (fun m e g => ∃ (i f : Nat) (q : Qm) (u : Value), m = 150 - i ∧ i ≤ 150 ∧ e = [(0, .int .i64 room), (2, v), (7, .pointer (some ⟨b, 0, none⟩)), (9, u), (10, .int .i64 i)] ∧ Ord h h1.size b r room g u q f) ?_ _ 150 _ _ (by omega) ⟨0, 0, Qm.new room begin', _, by omega, by omega, rfl, sQ, Qm.Good.new (by omega) (by omega) (by omega) (by omega), by simp [Qm.new]; omega, by simp [Qm.new, ShortI], k1, Nat.le_refl _, BldO.nil _ _ _ _, zb, zr, hb, hr, y1⟩
  rintro m e g again ⟨i, f, q, u, rfl, hi, rfl, o⟩ ih
  have hw1 : IntKind.i64.wrap ((i : Int) + 1) = ((i + 1 : Nat) : Int) := by rw [wrap_id (by omega) (by omega)]; rfl
  by_cases hlt : i < script.length ∧ i < 150
  · obtain ⟨x, hx⟩ : ∃ x, script[i]? = some x := ⟨_, List.getElem?_eq_getElem hlt.1⟩
    have sg := SlR.imp s (ok' := fun b => b < h.size) (R' := StpC (fun b => b < h.size)) (h' := g) (fun _ _ q => q) (fun cs x _ q => StpC.imp q (fun _ _ q => q) (keep_of o.kg.c (by simp))) (keep_of o.kg.c (by simp))
    obtain ⟨b', o', c, cs, es, lv, an, rfl, hk, hg, hle, vt, vp, hx5, st, sp⟩ := sg.at' hx
    have hto := st.one
    have hpo := sp.one
    simp only [oneCell] at hto hpo
    have hgs := lt_of_get hg
    simp (disch := first | omega | (simp only [newRow_size, Array.size_setIfInBounds, Array.size_push]; done) | (simp only [newRow_size, Array.size_setIfInBounds, Array.size_push]; omega)) [l11_split, r11_6, r11_7, hg, hl, hx5, hto, hpo, eqT, eqF, neT, neF, ltT, ltF, leT, leF, nltT, nltF, nleT, nleF, nneT, nneF, List.getElem?_cons_zero, List.getElem?_cons_succ]
    have kR := rowKept g [.int .i64 x.kind, .int .i64 x.on, .int .i64 x.stamp, vt, vp] 0 []
    have oR : Ord h h1.size b r room (Ev.newRow g [.int .i64 x.kind, .int .i64 x.on, .int .i64 x.stamp, vt, vp] 0 []) u q f :=
      ⟨o.sq.frame kR, o.gq, o.rm, o.sh, o.kg.trans kR, by have := kR.1; have := o.yg; omega, o.us.kept kR (by simp) (fun _ _ _ e => e), zb, zr, hb, hr, y1⟩
    refine swi_spec (F := F) (by omega) oR (x := x) (vt := vt) (vp := vp) (n := g.size) (by simp (disch := first | omega | (simp only [newRow_size, Array.size_setIfInBounds, Array.size_push]; done) | (simp only [newRow_size, Array.size_setIfInBounds, Array.size_push]; omega)) []) o.yg (SlTgd.imp st (ok' := fun b => b < h.size) (fun _ _ q => q) (keep_of kR.c (by simp))) (SlPrt.imp sp (ok' := fun b => b < h.size) (fun _ _ q => q) (keep_of kR.c (by simp))) (hs x (List.mem_of_getElem? hx)) hq ?_
    intro g2 u2 q2 f2 e2 o2
    refine rst_spec (F := F) (by omega) o2 ?_
    intro g3 a c d o3
    simp (disch := first | omega | (simp only [newRow_size, Array.size_setIfInBounds, Array.size_push]; done) | (simp only [newRow_size, Array.size_setIfInBounds, Array.size_push]; omega)) [r11_37, hw1]
    exact ih (150 - (i + 1)) _ _ (by omega) ⟨i + 1, f2, q2, u2, rfl, by omega, rfl, o3⟩
  · by_cases h1' : i < script.length
    · simp (disch := first | omega | (simp only [newRow_size, Array.size_setIfInBounds, Array.size_push]; done) | (simp only [newRow_size, Array.size_setIfInBounds, Array.size_push]; omega)) [l11_split, r11_6, hl, eqT, eqF, neT, neF, ltT, ltF, leT, leF, nltT, nltF, nleT, nleF, nneT, nneF, List.getElem?_cons_zero, List.getElem?_cons_succ, r11_39]
      refine Ans.next (known_spec (F := F) (by omega) g) ?_
      rintro u h2 ⟨rfl, k2⟩
      simp (disch := first | omega | (simp only [newRow_size, Array.size_setIfInBounds, Array.size_push]; done) | (simp only [newRow_size, Array.size_setIfInBounds, Array.size_push]; omega)) []
      exact Ans.of (hq _)
    · simp (disch := first | omega | (simp only [newRow_size, Array.size_setIfInBounds, Array.size_push]; done) | (simp only [newRow_size, Array.size_setIfInBounds, Array.size_push]; omega)) [l11_split, r11_6, hl, eqT, eqF, neT, neF, ltT, ltF, leT, leF, nltT, nltF, nleT, nleF, nneT, nneF, List.getElem?_cons_zero, List.getElem?_cons_succ, r11_39]
      refine Ans.next (known_spec (F := F) (by omega) g) ?_
      rintro u h2 ⟨rfl, k2⟩
      simp (disch := first | omega | (simp only [newRow_size, Array.size_setIfInBounds, Array.size_push]; done) | (simp only [newRow_size, Array.size_setIfInBounds, Array.size_push]; omega)) []
      exact Ans.of (hq _)

end Go.Proofs.Ytkkagpchcefidaa
