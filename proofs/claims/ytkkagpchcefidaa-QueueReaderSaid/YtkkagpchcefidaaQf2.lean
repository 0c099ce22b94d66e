/- QueueReader: the walk. -/
import Derived.Test.YtkkagpchcefidaaQf1
set_option linter.unusedSimpArgs false
set_option linter.unusedVariables false
namespace Go.Proofs.Ytkkagpchcefidaa
open Go.Ev

theorem tmod_small {a : Int} {n : Nat} (hn : 0 < n) (h60 : n ≤ 60) : ∃ j : Nat, j < n ∧ IntKind.i64.wrap (a.tmod n + n) = a.tmod n + n ∧ (a.tmod n + n).tmod n = (j : Int) := by
  have h1 : a.tmod n < n := Int.tmod_lt_of_pos a (by omega)
  have h2 : -(n : Int) < a.tmod n := by
    have := Int.tmod_lt_of_pos (-a) (show (0 : Int) < n by omega)
    rw [Int.neg_tmod] at this
    omega
  have h3 : (a.tmod n + n).tmod n = (a.tmod n + n) % n := Int.tmod_eq_emod_of_nonneg (by omega)
  have h4 : 0 ≤ (a.tmod n + n) % (n : Int) := Int.emod_nonneg _ (by omega)
  have h5 : (a.tmod n + n) % (n : Int) < n := Int.emod_lt_of_pos _ (by omega)
  refine ⟨((a.tmod n + n) % (n : Int)).toNat, by omega, wrap_id (by omega) (by omega), ?_⟩
  rw [h3]; omega

set_option maxHeartbeats 4000000 in
theorem queueReader_spec {F : Nat} (hF : 17592186044450 ≤ F) {h : H} (room begin' : Int) {v t : Value} {script : List Stp} {takes : List Tk} (s : SlR (fun b => b < h.size) 5 (StpC (fun b => b < h.size)) h v script) (hs : ∀ x ∈ script, x.Short)
    (tk : SlR (fun b => b < h.size) 3 TkC h t takes) :
    Ans (cf F 12 [.int .i64 room, .int .i64 begin', v, t] h) fun u h' => u = .bool true := by
  generalize hQ : (fun (u : Value) (h' : H) => u = Value.bool true) = Q
  have hq : ∀ h', Q (.bool true) h' := by subst hQ; exact fun _ => rfl
  obtain ⟨F, rfl⟩ : ∃ G, F = G + 1 := ⟨F - 1, by omega⟩
  rw [cf_step (a := a12) rfl rfl (by simp [a12])]
  have hl := s.len
  have htl := tk.len
  by_cases hroom : room < 1 ∨ 32 < room
  · simp (disch := first | omega | (simp only [newRow_size, Array.size_setIfInBounds, Array.size_push]; done) | (simp only [newRow_size, Array.size_setIfInBounds, Array.size_push]; omega)) [a12, r12_0, r12_1, New_bad1 (F := F) (by omega) h room begin' hroom, r12_2, num_eq (F := F) (by omega), r12_3, eqT, eqF, neT, neF, ltT, ltF, leT, leF, nltT, nltF, nleT, nleF, nneT, nneF, List.getElem?_cons_zero, List.getElem?_cons_succ]
    refine Ans.next (known_spec (F := F) (by omega) h) ?_
    rintro u h2 ⟨rfl, k2⟩
    simp (disch := first | omega | (simp only [newRow_size, Array.size_setIfInBounds, Array.size_push]; done) | (simp only [newRow_size, Array.size_setIfInBounds, Array.size_push]; omega)) []
    exact Ans.of (hq _)
  by_cases hbeg : begin' < 0 ∨ 2147483647 < begin'
  · simp (disch := first | omega | (simp only [newRow_size, Array.size_setIfInBounds, Array.size_push]; done) | (simp only [newRow_size, Array.size_setIfInBounds, Array.size_push]; omega)) [a12, r12_0, r12_1, New_bad2 (F := F) (by omega) h room begin' (by omega) (by omega) hbeg, r12_2, num_eq (F := F) (by omega), r12_3, eqT, eqF, neT, neF, ltT, ltF, leT, leF, nltT, nltF, nleT, nleF, nneT, nneF, List.getElem?_cons_zero, List.getElem?_cons_succ]
    refine Ans.next (known_spec (F := F) (by omega) h) ?_
    rintro u h2 ⟨rfl, k2⟩
    simp (disch := first | omega | (simp only [newRow_size, Array.size_setIfInBounds, Array.size_push]; done) | (simp only [newRow_size, Array.size_setIfInBounds, Array.size_push]; omega)) []
    exact Ans.of (hq _)
  simp (disch := first | omega | (simp only [newRow_size, Array.size_setIfInBounds, Array.size_push]; done) | (simp only [newRow_size, Array.size_setIfInBounds, Array.size_push]; omega)) [a12, r12_0, r12_1]
  refine Ans.next (New_spec (F := F) (by omega) h room begin' (by omega) (by omega) (by omega) (by omega)) ?_
  rintro v1 h1 ⟨b, r, rfl, s1, zb, zr, hb, hr, hbr, k1⟩
  have sQ := s1 (since h1.size) (by simp; omega) (by simp; omega)
  have y1 := k1.1
  simp (disch := first | omega | (simp only [newRow_size, Array.size_setIfInBounds, Array.size_push]; done) | (simp only [newRow_size, Array.size_setIfInBounds, Array.size_push]; omega)) [r12_2, num_eq (F := F) (by omega), eqT, eqF, neT, neF, ltT, ltF, leT, leF, nltT, nltF, nleT, nleF, nneT, nneF, List.getElem?_cons_zero, List.getElem?_cons_succ, r12_4, r12_5, r12_6, r12_7]
  refine loop_rule (fun m e g => ∃ (i f : Nat) (q : Qm) (u w : Value) (ps : List Int) (bk : List (List Itm)) (has : Int), m = 60 - i ∧ i ≤ 60 ∧ e = [(2, v), (3, t), (9, .pointer (some ⟨b, 0, none⟩)), (11, u), (12, w), (13, .int .i64 has), (14, .int .i64 i)] ∧ Rdr h h1.size b r i g u w ps bk q f ∧ bk.length = i) ?_ _ 60 _ _ (by omega) ⟨0, 0, Qm.new room begin', _, _, [], [], _, by omega, by omega, rfl, ⟨sQ, Qm.Good.new (by omega) (by omega) (by omega) (by omega), by simp [Qm.new, ShortI], k1, Nat.le_refl _, Bld.nil _ _ _ _, Bld.nil _ _ _ _, by simp, by simp, by simp [Qm.new], by simp, by simp, zb, zr, hb, hr, y1⟩, rfl⟩
  rintro m e g again ⟨i, f, q, u, w, ps, bk, has, rfl, hi, rfl, o, hbk⟩ ih
  have hw1 : IntKind.i64.wrap ((i : Int) + 1) = ((i + 1 : Nat) : Int) := by rw [wrap_id (by omega) (by omega)]; rfl
  by_cases hlt : i < script.length ∧ i < 60
  · obtain ⟨x, hx⟩ : ∃ x, script[i]? = some x := ⟨_, List.getElem?_eq_getElem hlt.1⟩
    have sg := SlR.imp s (ok' := fun b => b < h.size) (R' := StpC (fun b => b < h.size)) (h' := g) (fun _ _ q => q) (fun cs x _ q => StpC.imp q (fun _ _ q => q) (keep_of o.kg.c (by simp))) (keep_of o.kg.c (by simp))
    obtain ⟨b', o', c, cs, es, lv, an, rfl, hk, hg, hle, vt, vp, hx5, st, sp⟩ := sg.at' hx
    have hto := st.one
    have hpo := sp.one
    simp only [oneCell] at hto hpo
    have hgs := lt_of_get hg
    simp (disch := first | omega | (simp only [newRow_size, Array.size_setIfInBounds, Array.size_push]; done) | (simp only [newRow_size, Array.size_setIfInBounds, Array.size_push]; omega)) [l12_split, r12_8, r12_9, hg, hl, hx5, hto, hpo, eqT, eqF, neT, neF, ltT, ltF, leT, leF, nltT, nltF, nleT, nleF, nneT, nneF, List.getElem?_cons_zero, List.getElem?_cons_succ]
    have kR := rowKept g [.int .i64 x.kind, .int .i64 x.on, .int .i64 x.stamp, vt, vp] 0 []
    refine swa_spec (F := F) (by omega) (o.rest kR) (by omega) (x := x) (vt := vt) (vp := vp) (n := g.size) (by simp (disch := first | omega | (simp only [newRow_size, Array.size_setIfInBounds, Array.size_push]; done) | (simp only [newRow_size, Array.size_setIfInBounds, Array.size_push]; omega)) []) o.yg (SlTgd.imp st (ok' := fun b => b < h.size) (fun _ _ q => q) (keep_of kR.c (by simp))) (SlPrt.imp sp (ok' := fun b => b < h.size) (fun _ _ q => q) (keep_of kR.c (by simp))) (hs x (List.mem_of_getElem? hx)) ?_
    intro g2 u2 ps2 q2 f2 e2 o2
    simp (disch := first | omega | (simp only [newRow_size, Array.size_setIfInBounds, Array.size_push]; done) | (simp only [newRow_size, Array.size_setIfInBounds, Array.size_push]; omega)) [r12_15]
    refine Ans.next (Next_spec (F := F) (by omega) o2.sq o2.gq o2.sh 99) ?_
    rintro vl g3 ⟨b3, s3, k3⟩
    rw [next99 o2.gq] at b3
    have o3 := o2.move (k3.weak (by simp)) s3
    have hvo := b3.sl.one
    have hvc := b3.sl.vc
    simp only [oneCell] at hvo
    simp only [vcells] at hvc
    simp (disch := first | omega | (simp only [newRow_size, Array.size_setIfInBounds, Array.size_push]; done) | (simp only [newRow_size, Array.size_setIfInBounds, Array.size_push]; omega)) [hvo, hvc, srcOf, eqT, eqF, neT, neF, ltT, ltF, leT, leF, nltT, nltF, nleT, nleF, nneT, nneF, List.getElem?_cons_zero, List.getElem?_cons_succ]
    have kR3 := rowKept g3 [vl] 1 []
    have sl3 := SlItm.imp b3.sl (ok' := since h1.size) (fun c _ hc => by have := o2.yg; have hc' : g2.size ≤ c := hc; show h1.size ≤ c; omega) (keep_of kR3.c (by simp))
    refine Ans.next ((o3.rest kR3).book (by omega) sl3) ?_
    intro w4 g4 o4
    have hb4 : (bk ++ [q2.items]).length = i + 1 := by simp [hbk]
    have hbl := o4.bs.sl.len
    obtain ⟨n, hn⟩ : ∃ n, n = i + 1 := ⟨_, rfl⟩
    rw [hb4, ← hn] at hbl
    generalize bk ++ [q2.items] = bk2 at o4 hb4
    simp (disch := first | omega | (simp only [newRow_size, Array.size_setIfInBounds, Array.size_push]; done) | (simp only [newRow_size, Array.size_setIfInBounds, Array.size_push]; omega)) [r12_16, htl]
    by_cases htk : i < takes.length
    · obtain ⟨d, hd⟩ : ∃ d, takes[i]? = some d := ⟨_, List.getElem?_eq_getElem htk⟩
      have tg := tk.imp (ok' := fun b => b < h.size) (R' := TkC) (h' := g4) (fun _ _ q => q) (fun _ _ _ q => q) (keep_of o4.kg.c (by simp))
      obtain ⟨b5, o5, c5, cs5, es5, lv5, an5, rfl, hk5, hg5, hle5, hd5⟩ := tg.at' hd
      simp only [TkC] at hd5
      have hgs5 := lt_of_get hg5
      obtain ⟨j, hj, hjw, hjm⟩ := tmod_small (a := d.at') (n := n) (by omega) (by omega)
      obtain ⟨lj, hlj⟩ : ∃ lj, bk2[j]? = some lj := ⟨_, List.getElem?_eq_getElem (by omega)⟩
      have kR5 := rowKept g4 [.int .i64 d.at', .int .i64 d.which, .bool d.ack] 0 []
      have o5' := o4.rest kR5
      obtain ⟨b6, o6, c6, cs6, es6, lv6, an6, ew, hk6, hg6, hle6, vj, hrow, slj⟩ := o5'.bs.sl.at' hlj
      simp only [Nat.mul_one] at hle6 hrow
      have hz : ¬ (n = 0) := by omega
      have el : bk2.length = n := by omega
      rw [el] at ew
      have hgs6 := lt_of_get hg6
      simp (disch := first | omega | (simp only [newRow_size, Array.size_setIfInBounds, Array.size_push]; done) | (simp only [newRow_size, Array.size_setIfInBounds, Array.size_push]; omega)) [eqT, eqF, neT, neF, ltT, ltF, leT, leF, nltT, nltF, nleT, nleF, nneT, nneF, List.getElem?_cons_zero, List.getElem?_cons_succ, r12_17, hg5, hd5, r12_18]
      simp (disch := first | omega | (simp only [newRow_size, Array.size_setIfInBounds, Array.size_push]; done) | (simp only [newRow_size, Array.size_setIfInBounds, Array.size_push]; omega)) [hbl, hjw, hjm, hz, eqT, eqF, neT, neF, ltT, ltF, leT, leF, nltT, nltF, nleT, nleF, nneT, nneF, List.getElem?_cons_zero, List.getElem?_cons_succ]
      rw [ew]
      simp (disch := first | omega | (simp only [newRow_size, Array.size_setIfInBounds, Array.size_push]; done) | (simp only [newRow_size, Array.size_setIfInBounds, Array.size_push]; omega)) [hg6, hrow, eqT, eqF, neT, neF, ltT, ltF, leT, leF, nltT, nltF, nleT, nleF, nneT, nneF, List.getElem?_cons_zero, List.getElem?_cons_succ]
      rw [← ew]
      refine swb_spec (F := F) (by omega) o5' (by omega) (n := g4.size) (a := d.at') (wh := d.which) (ack := d.ack) (l := lj) (by simp (disch := first | omega | (simp only [newRow_size, Array.size_setIfInBounds, Array.size_push]; done) | (simp only [newRow_size, Array.size_setIfInBounds, Array.size_push]; omega)) []) (List.mem_of_getElem? hlj) slj ?_
      intro g7 has7 e7 k7
      have o7 := o5'.rest k7
      have hn7 : hget g7 g4.size = some (.cells [.int .i64 d.at', .int .i64 d.which, .bool d.ack] 0 true []) := (k7.get (by first | omega | (simp only [newRow_size, Array.size_setIfInBounds, Array.size_push]; done) | (simp only [newRow_size, Array.size_setIfInBounds, Array.size_push]; omega)) (by simp)).trans (by simp (disch := first | omega | (simp only [newRow_size, Array.size_setIfInBounds, Array.size_push]; done) | (simp only [newRow_size, Array.size_setIfInBounds, Array.size_push]; omega)) [])
      simp (disch := first | omega | (simp only [newRow_size, Array.size_setIfInBounds, Array.size_push]; done) | (simp only [newRow_size, Array.size_setIfInBounds, Array.size_push]; omega)) [r12_24, hn7]
      cases hack : d.ack with
      | true =>
        simp (disch := first | omega | (simp only [newRow_size, Array.size_setIfInBounds, Array.size_push]; done) | (simp only [newRow_size, Array.size_setIfInBounds, Array.size_push]; omega)) [eqT, eqF, neT, neF, ltT, ltF, leT, leF, nltT, nltF, nleT, nleF, nneT, nneF, List.getElem?_cons_zero, List.getElem?_cons_succ, r12_25]
        refine Ans.next (Took_spec (F := F) (by omega) o7.sq o7.gq has7) ?_
        rintro y g8 ⟨rfl, f8, s8, k8⟩
        simp (disch := first | omega | (simp only [newRow_size, Array.size_setIfInBounds, Array.size_push]; done) | (simp only [newRow_size, Array.size_setIfInBounds, Array.size_push]; omega)) [r12_26, hw1]
        exact ih (60 - (i + 1)) _ _ (by omega) ⟨i + 1, f8, _, u2, w4, ps2, bk2, has7, rfl, by omega, rfl, o7.took has7 (k8.weak (by simp)) s8, hb4⟩
      | false =>
        simp (disch := first | omega | (simp only [newRow_size, Array.size_setIfInBounds, Array.size_push]; done) | (simp only [newRow_size, Array.size_setIfInBounds, Array.size_push]; omega)) [eqT, eqF, neT, neF, ltT, ltF, leT, leF, nltT, nltF, nleT, nleF, nneT, nneF, List.getElem?_cons_zero, List.getElem?_cons_succ, r12_26, hw1]
        exact ih (60 - (i + 1)) _ _ (by omega) ⟨i + 1, f2, q2, u2, w4, ps2, bk2, has7, rfl, by omega, rfl, o7, hb4⟩
    · simp (disch := first | omega | (simp only [newRow_size, Array.size_setIfInBounds, Array.size_push]; done) | (simp only [newRow_size, Array.size_setIfInBounds, Array.size_push]; omega)) [eqT, eqF, neT, neF, ltT, ltF, leT, leF, nltT, nltF, nleT, nleF, nneT, nneF, List.getElem?_cons_zero, List.getElem?_cons_succ, r12_26, hw1]
      exact ih (60 - (i + 1)) _ _ (by omega) ⟨i + 1, f2, q2, u2, w4, ps2, bk2, has, rfl, by omega, rfl, o4, hb4⟩
  · by_cases h1' : i < script.length
    · simp (disch := first | omega | (simp only [newRow_size, Array.size_setIfInBounds, Array.size_push]; done) | (simp only [newRow_size, Array.size_setIfInBounds, Array.size_push]; omega)) [l12_split, r12_8, hl, eqT, eqF, neT, neF, ltT, ltF, leT, leF, nltT, nltF, nleT, nleF, nneT, nneF, List.getElem?_cons_zero, List.getElem?_cons_succ, r12_28]
      refine Ans.next (known_spec (F := F) (by omega) g) ?_
      rintro u h2 ⟨rfl, k2⟩
      simp (disch := first | omega | (simp only [newRow_size, Array.size_setIfInBounds, Array.size_push]; done) | (simp only [newRow_size, Array.size_setIfInBounds, Array.size_push]; omega)) []
      exact Ans.of (hq _)
    · simp (disch := first | omega | (simp only [newRow_size, Array.size_setIfInBounds, Array.size_push]; done) | (simp only [newRow_size, Array.size_setIfInBounds, Array.size_push]; omega)) [l12_split, r12_8, hl, eqT, eqF, neT, neF, ltT, ltF, leT, leF, nltT, nltF, nleT, nleF, nneT, nneF, List.getElem?_cons_zero, List.getElem?_cons_succ, r12_28]
      refine Ans.next (known_spec (F := F) (by omega) g) ?_
      rintro u h2 ⟨rfl, k2⟩
      simp (disch := first | omega | (simp only [newRow_size, Array.size_setIfInBounds, Array.size_push]; done) | (simp only [newRow_size, Array.size_setIfInBounds, Array.size_push]; omega)) []
      exact Ans.of (hq _)

end Go.Proofs.Ytkkagpchcefidaa
