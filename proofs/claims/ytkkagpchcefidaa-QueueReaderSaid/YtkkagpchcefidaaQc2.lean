/- The document's copies: changes, parts. -/
import Derived.Test.YtkkagpchcefidaaQc1
set_option linter.unusedSimpArgs false
set_option linter.unusedVariables false
namespace Go.Proofs.Ytkkagpchcefidaa
open Go.Ev

theorem TgdC.frame {ok : Nat → Prop} {h h' : H} (k : KeptC h h' []) {cs : List Value} {x : Tgd} (q : TgdC ok h cs x) : TgdC ok h' cs x := TgdC.imp q (fun _ _ q => q) (keep_of k (by simp))
theorem PrtC.frame {ok : Nat → Prop} {h h' : H} (k : KeptC h h' []) {cs : List Value} {x : Prt} (q : PrtC ok h cs x) : PrtC ok h' cs x := PrtC.imp q (fun _ _ q => q) (keep_of k (by simp))
theorem ItmC.frame {ok : Nat → Prop} {h h' : H} (k : KeptC h h' []) {cs : List Value} {x : Itm} (q : ItmC ok h cs x) : ItmC ok h' cs x := ItmC.imp q (fun _ _ q => q) (keep_of k (by simp))
theorem SlTgd.frame {ok : Nat → Prop} {h h' : H} {v : Value} {xs : List Tgd} (s : SlR ok 5 (TgdC ok) h v xs) (k : KeptC h h' []) : SlR ok 5 (TgdC ok) h' v xs := SlTgd.imp s (fun _ _ q => q) (keep_of k (by simp))
theorem SlPrt.frame {ok : Nat → Prop} {h h' : H} {v : Value} {xs : List Prt} (s : SlR ok 5 (PrtC ok) h v xs) (k : KeptC h h' []) : SlR ok 5 (PrtC ok) h' v xs := SlPrt.imp s (fun _ _ q => q) (keep_of k (by simp))
theorem SlItm.frame {ok : Nat → Prop} {h h' : H} {v : Value} {xs : List Itm} (s : SlR ok 5 (ItmC ok) h v xs) (k : KeptC h h' []) : SlR ok 5 (ItmC ok) h' v xs := SlItm.imp s (fun _ _ q => q) (keep_of k (by simp))

theorem hd_at {ok : Nat → Prop} {h : H} {cs : List Value} {n : Nat} {t : Tgd} (q : TgdC ok h ((cs.drop n).take 5) t) (hle : n + 5 ≤ cs.length) : ∃ v, (cs.drop n).take 5 = [.int .i64 t.chg.kind, .string t.chg.place, .string t.chg.data, .int .i64 t.chg.ver, v] ∧ (cs.drop n).take 4 = [.int .i64 t.chg.kind, .string t.chg.place, .string t.chg.data, .int .i64 t.chg.ver] ∧ (cs.drop (n + 4)).take 1 = [v] ∧ SlR ok 1 IntC h v t.tags := by
  obtain ⟨v, e, s⟩ := q
  refine ⟨v, e, ?_, ?_, s⟩
  · have := congrArg (List.take 4) e
    rw [List.take_take] at this
    simpa using this
  · have := congrArg (List.drop 4) e
    rw [List.drop_take, List.drop_drop] at this
    simpa using this

set_option maxHeartbeats 1000000 in
theorem changes_spec {F : Nat} (hF : 17592186044420 ≤ F) {ok : Nat → Prop} {h : H} {v : Value} {xs : List Tgd} (s : SlR ok 5 (TgdC ok) h v xs) (hs : ShortT xs) : Ans (cf F 48 [v] h) (CopyT h xs) := by
  obtain ⟨F, rfl⟩ : ∃ G, F = G + 1 := ⟨F - 1, by omega⟩
  obtain ⟨hs1, hs2⟩ := hs
  rw [cf_step (a := a48) rfl rfl (by simp [a48])]
  have hl := s.len
  simp (disch := first | omega | (simp only [newRow_size, Array.size_setIfInBounds, Array.size_push]; done) | (simp only [newRow_size, Array.size_setIfInBounds, Array.size_push]; omega)) [a48, r48_0, r48_1, r48_2, hl, eqT, eqF, neT, neF, ltT, ltF, leT, leF, nltT, nltF, nleT, nleF, nneT, nneF, flipX, List.getElem?_cons_zero, List.getElem?_cons_succ]
  refine loop_rule (fun m e g => ∃ (i : Nat) (u : Value), m = xs.length - i ∧ i ≤ xs.length ∧ e = [(0, v), (3, u), (4, .int .i64 i)] ∧ Kept h g [] ∧ Bld (since h.size) 5 (TgdC (since h.size)) g u (xs.take i)) ?_ _ xs.length _ _ (by omega) ⟨0, _, by omega, by omega, rfl, Kept.refl _ _, Bld.nil _ _ _ _⟩
  rintro m e g again ⟨i, u, rfl, hi, rfl, kg, bu⟩ ih
  by_cases hlt : i < xs.length
  · obtain ⟨x, hx⟩ : ∃ x, xs[i]? = some x := ⟨_, List.getElem?_eq_getElem hlt⟩
    have hw : IntKind.i64.wrap ((i : Int) + 1) = ((i + 1 : Nat) : Int) := by rw [IntKind.wrap_i64]; omega
    have yg := kg.1
    simp (disch := first | omega | (simp only [newRow_size, Array.size_setIfInBounds, Array.size_push]; done) | (simp only [newRow_size, Array.size_setIfInBounds, Array.size_push]; omega)) [l48_12, r48_3, hl, eqT, eqF, neT, neF, ltT, ltF, leT, leF, nltT, nltF, nleT, nleF, nneT, nneF, flipX, List.getElem?_cons_zero, List.getElem?_cons_succ, r48_4, r48_5]
    have htl := hs2 x (List.mem_of_getElem? hx)
    refine loop_rule (fun m e g2 => ∃ (k : Nat) (t : Value), m = x.tags.length - k ∧ k ≤ x.tags.length ∧ e = [(0, v), (3, u), (4, .int .i64 i), (5, t), (6, .int .i64 k)] ∧ Kept g g2 [] ∧ Bld (since g.size) 1 IntC g2 t (x.tags.take k)) ?_ _ x.tags.length _ _ (by omega) ⟨0, _, by omega, by omega, rfl, Kept.refl _ _, Bld.nil _ _ _ _⟩
    rintro m e g2 again2 ⟨k, t, rfl, hk, rfl, k2, bt⟩ ih2
    have y2 := k2.1
    have s2 := s.imp (ok' := ok) (R' := TgdC ok) (fun _ _ q => q) (fun cs x _ q => TgdC.frame (kg.trans k2).c q) (keep_of (kg.trans k2).c (by simp))
    obtain ⟨b, o, c, cs, es, lv, an, rfl, hkb, hg, hle, hR⟩ := s2.at' hx
    obtain ⟨vt, hat5, hat4, hat1, st⟩ := hd_at hR hle
    have hgs := lt_of_get hg
    have hwk : IntKind.i64.wrap ((k : Int) + 1) = ((k + 1 : Nat) : Int) := by rw [IntKind.wrap_i64]; omega
    have htl' := st.len
    by_cases hkl : k < x.tags.length
    · obtain ⟨z, hz⟩ : ∃ z, x.tags[k]? = some z := ⟨_, List.getElem?_eq_getElem hkl⟩
      obtain ⟨b', o', c', cs', es', lv', an', rfl, hkb', hg', hle', hR'⟩ := st.at' hz
      have hR' : (cs'.drop (o' + k * 1)).take 1 = [.int .i64 z] := hR'
      rw [Nat.mul_one] at hR' hle'
      simp (disch := first | omega | (simp only [newRow_size, Array.size_setIfInBounds, Array.size_push]; done) | (simp only [newRow_size, Array.size_setIfInBounds, Array.size_push]; omega)) [l48_9, r48_6, hg, hat1, hg', hR', eqT, eqF, neT, neF, ltT, ltF, leT, leF, nltT, nltF, nleT, nleF, nneT, nneF, flipX, List.getElem?_cons_zero, List.getElem?_cons_succ, r48_7, srcOf]
      refine Ans.next (Bld.app (x := z) (bytes := 8) (ok := since g.size) (w := 1) (R := IntC) (xs := x.tags.take k) ?_ rfl ?_ ?_ ?_ ?_) ?_
      · exact bt.frame (rowKept _ _ _ _) (fun _ _ q => q)
      · rw [List.length_take]; omega
      · show g.size ≤ _; exact (by first | omega | (simp only [newRow_size, Array.size_setIfInBounds, Array.size_push]; done) | (simp only [newRow_size, Array.size_setIfInBounds, Array.size_push]; omega))
      · exact fun _ _ _ _ _ q => q
      · exact fun _ _ => rfl
      rintro t' g3 ⟨b3, k3, y3, g3', _⟩
      simp (disch := first | omega | (simp only [newRow_size, Array.size_setIfInBounds, Array.size_push]; done) | (simp only [newRow_size, Array.size_setIfInBounds, Array.size_push]; omega)) [r48_8, hwk, eqT, eqF, neT, neF, ltT, ltF, leT, leF, nltT, nltF, nleT, nleF, nneT, nneF, flipX, List.getElem?_cons_zero, List.getElem?_cons_succ]
      refine ih2 (x.tags.length - (k + 1)) _ _ (by omega) ⟨k + 1, t', rfl, by omega, rfl, ?_, by rw [take_snoc hz]; exact b3⟩
      have y3' := k3.1
      simp at y3'
      refine ⟨by omega, fun c hc _ => ?_⟩
      rw [g3' c (by simp; omega) (bt.ne (by simp; omega))]
      simp (disch := first | omega | (simp only [newRow_size, Array.size_setIfInBounds, Array.size_push]; done) | (simp only [newRow_size, Array.size_setIfInBounds, Array.size_push]; omega)) []
      exact k2.get hc (by simp)
    · have hkx : k = x.tags.length := by omega
      subst hkx
      rw [List.take_length] at bt
      have hvc := bt.sl.vc
      have hto := bt.sl.one
      simp only [vcells] at hvc
      simp only [oneCell] at hto
      simp (disch := first | omega | (simp only [newRow_size, Array.size_setIfInBounds, Array.size_push]; done) | (simp only [newRow_size, Array.size_setIfInBounds, Array.size_push]; omega)) [l48_9, r48_6, hg, hat1, htl', eqT, eqF, neT, neF, ltT, ltF, leT, leF, nltT, nltF, nleT, nleF, nneT, nneF, flipX, List.getElem?_cons_zero, List.getElem?_cons_succ, r48_10, hat4, hvc, srcOf, hto]
      refine Ans.next (Bld.app (x := x) (bytes := 72) (ok := since h.size) (w := 5) (R := TgdC (since h.size)) (xs := xs.take i) ?_ rfl ?_ ?_ ?_ ?_) ?_
      · exact Bld.frame (bu.frame k2 (fun _ _ q => TgdC.frame k2.c q)) (rowKept _ _ _ _) (fun _ _ q => TgdC.frame (rowKept _ _ _ _).c q)
      · rw [List.length_take]; omega
      · show h.size ≤ _; exact (by first | omega | (simp only [newRow_size, Array.size_setIfInBounds, Array.size_push]; done) | (simp only [newRow_size, Array.size_setIfInBounds, Array.size_push]; omega))
      · exact fun h' k cs y _ q => TgdC.frame k q
      · intro h' k
        refine ⟨t, rfl, ?_⟩
        refine SlInt.imp bt.sl (fun b _ hb => ?_) (fun b cs hb hc => ?_)
        · have : g.size ≤ b := hb
          show h.size ≤ b
          omega
        · exact ((rowKept _ _ _ _).c.trans k).2 b (cel_lt hc) (by simp) |>.trans hc
      rintro u' g3 ⟨b3, k3, y3, g3', _⟩
      simp (disch := first | omega | (simp only [newRow_size, Array.size_setIfInBounds, Array.size_push]; done) | (simp only [newRow_size, Array.size_setIfInBounds, Array.size_push]; omega)) [r48_11, hw, eqT, eqF, neT, neF, ltT, ltF, leT, leF, nltT, nltF, nleT, nleF, nneT, nneF, flipX, List.getElem?_cons_zero, List.getElem?_cons_succ]
      refine ih (xs.length - (i + 1)) _ _ (by omega) ⟨i + 1, u', rfl, by omega, rfl, ?_, by rw [take_snoc hx]; exact b3⟩
      have y3' := k3.1
      simp at y3'
      refine ⟨by omega, fun c hc _ => ?_⟩
      rw [g3' c (by simp; omega) (bu.ne (by simp; omega))]
      simp (disch := first | omega | (simp only [newRow_size, Array.size_setIfInBounds, Array.size_push]; done) | (simp only [newRow_size, Array.size_setIfInBounds, Array.size_push]; omega)) []
      exact (k2.get (by omega) (by simp)).trans (kg.get hc (by simp))
  · have hxi : i = xs.length := by omega
    subst hxi
    rw [List.take_length] at bu
    simp (disch := first | omega | (simp only [newRow_size, Array.size_setIfInBounds, Array.size_push]; done) | (simp only [newRow_size, Array.size_setIfInBounds, Array.size_push]; omega)) [l48_12, r48_3, hl, r48_13, eqT, eqF, neT, neF, ltT, ltF, leT, leF, nltT, nltF, nleT, nleF, nneT, nneF, flipX, List.getElem?_cons_zero, List.getElem?_cons_succ]
    exact Ans.of ⟨bu, kg⟩

set_option maxHeartbeats 1000000 in
theorem parts_spec {F : Nat} (hF : 17592186044420 ≤ F) {ok : Nat → Prop} {h : H} {v : Value} {xs : List Prt} (s : SlR ok 5 (PrtC ok) h v xs) (hs : ShortP xs) : Ans (cf F 49 [v] h) (CopyP h xs) := by
  obtain ⟨F, rfl⟩ : ∃ G, F = G + 1 := ⟨F - 1, by omega⟩
  obtain ⟨hs1, hs2⟩ := hs
  rw [cf_step (a := a49) rfl rfl (by simp [a49])]
  have hl := s.len
  simp (disch := first | omega | (simp only [newRow_size, Array.size_setIfInBounds, Array.size_push]; done) | (simp only [newRow_size, Array.size_setIfInBounds, Array.size_push]; omega)) [a49, r49_0, r49_1, r49_2, hl, eqT, eqF, neT, neF, ltT, ltF, leT, leF, nltT, nltF, nleT, nleF, nneT, nneF, flipX, List.getElem?_cons_zero, List.getElem?_cons_succ]
  refine loop_rule (fun m e g => ∃ (i : Nat) (u : Value), m = xs.length - i ∧ i ≤ xs.length ∧ e = [(0, v), (3, u), (4, .int .i64 i)] ∧ Kept h g [] ∧ Bld (since h.size) 5 (PrtC (since h.size)) g u (xs.take i)) ?_ _ xs.length _ _ (by omega) ⟨0, _, by omega, by omega, rfl, Kept.refl _ _, Bld.nil _ _ _ _⟩
  rintro m e g again ⟨i, u, rfl, hi, rfl, kg, bu⟩ ih
  by_cases hlt : i < xs.length
  · obtain ⟨x, hx⟩ : ∃ x, xs[i]? = some x := ⟨_, List.getElem?_eq_getElem hlt⟩
    have hw : IntKind.i64.wrap ((i : Int) + 1) = ((i + 1 : Nat) : Int) := by rw [IntKind.wrap_i64]; omega
    have yg := kg.1
    have sg := s.imp (ok' := ok) (R' := PrtC ok) (fun _ _ q => q) (fun cs x _ q => PrtC.frame kg.c q) (keep_of kg.c (by simp))
    obtain ⟨b, o, c, cs, es, lv, an, rfl, hkb, hg, hle, vt, hat, st⟩ := sg.at' hx
    have hgs := lt_of_get hg
    have hto := st.one
    simp only [oneCell] at hto
    simp (disch := first | omega | (simp only [newRow_size, Array.size_setIfInBounds, Array.size_push]; done) | (simp only [newRow_size, Array.size_setIfInBounds, Array.size_push]; omega)) [l49_14, r49_3, hl, hg, hat, hto, eqT, eqF, neT, neF, ltT, ltF, leT, leF, nltT, nltF, nleT, nleF, nneT, nneF, flipX, List.getElem?_cons_zero, List.getElem?_cons_succ, r49_4, r49_5, r49_6]
    have htl := hs2 x (List.mem_of_getElem? hx)
    have st1 := SlSeen.imp st (ok' := ok) (fun _ _ q => q) (keep_of (rowKept g [.int .i64 x.id, .int .i64 x.stamp, .string x.place, .int .i64 x.kind, vt] 0 []).c (by simp))
    have k1 := rowKept g [.int .i64 x.id, .int .i64 x.stamp, .string x.place, .int .i64 x.kind, vt] 0 []
    have e1 : hget (Ev.newRow g [.int .i64 x.id, .int .i64 x.stamp, .string x.place, .int .i64 x.kind, vt] 0 []) g.size = some (.cells [.int .i64 x.id, .int .i64 x.stamp, .string x.place, .int .i64 x.kind, vt] 0 true []) := by simp
    have z1 : (Ev.newRow g [.int .i64 x.id, .int .i64 x.stamp, .string x.place, .int .i64 x.kind, vt] 0 []).size = g.size + 1 := by simp
    generalize Ev.newRow g [.int .i64 x.id, .int .i64 x.stamp, .string x.place, .int .i64 x.kind, vt] 0 [] = g1 at st1 k1 e1 z1 ⊢
    refine loop_rule (fun m e g2 => ∃ (k : Nat) (t : Value), m = x.nodes.length - k ∧ k ≤ x.nodes.length ∧ e = [(0, .slice (some ⟨b, o, none⟩) xs.length c), (3, u), (4, .int .i64 i), (5, .pointer (some ⟨g.size, 0, none⟩)), (6, t), (7, .int .i64 k)] ∧ Kept g1 g2 [] ∧ Bld (since g1.size) 3 SeenC g2 t (x.nodes.take k)) ?_ _ x.nodes.length _ _ (by omega) ⟨0, _, by omega, by omega, rfl, Kept.refl _ _, Bld.nil _ _ _ _⟩
    rintro m e g2 again2 ⟨k, t, rfl, hk, rfl, k2, bt⟩ ih2
    have y2 := k2.1
    have e2 := (k2.get (b := g.size) (by omega) (by simp)).trans e1
    have hgs2 := lt_of_get e2
    have st2 := SlSeen.imp st1 (ok' := ok) (fun _ _ q => q) (keep_of k2.c (by simp))
    have hwk : IntKind.i64.wrap ((k : Int) + 1) = ((k + 1 : Nat) : Int) := by rw [IntKind.wrap_i64]; omega
    have htl' := st2.len
    by_cases hkl : k < x.nodes.length
    · obtain ⟨z, hz⟩ : ∃ z, x.nodes[k]? = some z := ⟨_, List.getElem?_eq_getElem hkl⟩
      obtain ⟨b', o', c', cs', es', lv', an', rfl, hkb', hg', hle', hR'⟩ := st2.at' hz
      have hR' : (cs'.drop (o' + k * 3)).take 3 = [.string z.place, .string z.data, .int .i64 z.ver] := hR'
      simp (disch := first | omega | (simp only [newRow_size, Array.size_setIfInBounds, Array.size_push]; done) | (simp only [newRow_size, Array.size_setIfInBounds, Array.size_push]; omega)) [l49_10, r49_7, e2, hg', hR', eqT, eqF, neT, neF, ltT, ltF, leT, leF, nltT, nltF, nleT, nleF, nneT, nneF, flipX, List.getElem?_cons_zero, List.getElem?_cons_succ, r49_8, srcOf]
      refine Ans.next (Bld.app (x := z) (bytes := 40) (ok := since g1.size) (w := 3) (R := SeenC) (xs := x.nodes.take k) ?_ rfl ?_ ?_ ?_ ?_) ?_
      · exact bt.frame (rowKept _ _ _ _) (fun _ _ q => q)
      · rw [List.length_take]; omega
      · show g1.size ≤ _; exact (by first | omega | (simp only [newRow_size, Array.size_setIfInBounds, Array.size_push]; done) | (simp only [newRow_size, Array.size_setIfInBounds, Array.size_push]; omega))
      · exact fun _ _ _ _ _ q => q
      · exact fun _ _ => rfl
      rintro t' g3 ⟨b3, k3, y3, g3', _⟩
      simp (disch := first | omega | (simp only [newRow_size, Array.size_setIfInBounds, Array.size_push]; done) | (simp only [newRow_size, Array.size_setIfInBounds, Array.size_push]; omega)) [r49_9, hwk, eqT, eqF, neT, neF, ltT, ltF, leT, leF, nltT, nltF, nleT, nleF, nneT, nneF, flipX, List.getElem?_cons_zero, List.getElem?_cons_succ]
      refine ih2 (x.nodes.length - (k + 1)) _ _ (by omega) ⟨k + 1, t', rfl, by omega, rfl, ?_, by rw [take_snoc hz]; exact b3⟩
      have y3' := k3.1
      simp at y3'
      refine ⟨by omega, fun c hc _ => ?_⟩
      rw [g3' c (by simp; omega) (bt.ne (by simp; omega))]
      simp (disch := first | omega | (simp only [newRow_size, Array.size_setIfInBounds, Array.size_push]; done) | (simp only [newRow_size, Array.size_setIfInBounds, Array.size_push]; omega)) []
      exact k2.get hc (by simp)
    · have hkx : k = x.nodes.length := by omega
      subst hkx
      rw [List.take_length] at bt
      have hvc := bt.sl.vc
      have hto := bt.sl.one
      simp only [vcells] at hvc
      simp only [oneCell] at hto
      simp (disch := first | omega | (simp only [newRow_size, Array.size_setIfInBounds, Array.size_push]; done) | (simp only [newRow_size, Array.size_setIfInBounds, Array.size_push]; omega)) [l49_10, r49_7, e2, htl', eqT, eqF, neT, neF, ltT, ltF, leT, leF, nltT, nltF, nleT, nleF, nneT, nneF, flipX, List.getElem?_cons_zero, List.getElem?_cons_succ, r49_11, r49_12, hvc, srcOf, hto]
      have kS : ∀ c y, c < g2.size → c ≠ g.size → hget (Ev.newRow (Array.setIfInBounds g2 g.size y) [.int .i64 x.id, .int .i64 x.stamp, .string x.place, .int .i64 x.kind, t] 5 []) c = hget g2 c := by
        intro c y hc hn
        simp (disch := first | omega | (simp only [newRow_size, Array.size_setIfInBounds, Array.size_push]; done) | (simp only [newRow_size, Array.size_setIfInBounds, Array.size_push]; omega)) []
      have kG : ∀ y, Kept g (Ev.newRow (Array.setIfInBounds g2 g.size y) [.int .i64 x.id, .int .i64 x.stamp, .string x.place, .int .i64 x.kind, t] 5 []) [] := fun y => ⟨(by first | omega | (simp only [newRow_size, Array.size_setIfInBounds, Array.size_push]; done) | (simp only [newRow_size, Array.size_setIfInBounds, Array.size_push]; omega)), fun c hc _ => by
        rw [kS c y (by omega) (by omega), k2.get (by omega) (by simp)]
        exact k1.get hc (by simp)⟩
      refine Ans.next (Bld.app (x := x) (bytes := 64) (ok := since h.size) (w := 5) (R := PrtC (since h.size)) (xs := xs.take i) ?_ rfl ?_ ?_ ?_ ?_) ?_
      · exact bu.frame (kG _) (fun _ _ q => PrtC.frame (kG _).c q)
      · rw [List.length_take]; omega
      · show h.size ≤ _; exact (by first | omega | (simp only [newRow_size, Array.size_setIfInBounds, Array.size_push]; done) | (simp only [newRow_size, Array.size_setIfInBounds, Array.size_push]; omega))
      · exact fun h' k cs y _ q => PrtC.frame k q
      · intro h' k
        refine ⟨t, rfl, ?_⟩
        refine SlSeen.imp bt.sl (fun b _ hb => ?_) (fun b cs hb hc => ?_)
        · have : g1.size ≤ b := hb
          show h.size ≤ b
          omega
        · have hb' : g1.size ≤ b := hb
          have hlt' := cel_lt hc
          rw [k.2 b (by simp; omega) (by simp), ← hc]
          exact cel_congr (kS _ _ hlt' (by omega))
      rintro u' g3 ⟨b3, k3, y3, g3', _⟩
      simp (disch := first | omega | (simp only [newRow_size, Array.size_setIfInBounds, Array.size_push]; done) | (simp only [newRow_size, Array.size_setIfInBounds, Array.size_push]; omega)) [r49_13, hw, eqT, eqF, neT, neF, ltT, ltF, leT, leF, nltT, nltF, nleT, nleF, nneT, nneF, flipX, List.getElem?_cons_zero, List.getElem?_cons_succ]
      refine ih (xs.length - (i + 1)) _ _ (by omega) ⟨i + 1, u', rfl, by omega, rfl, ?_, by rw [take_snoc hx]; exact b3⟩
      have y3' := k3.1
      simp at y3'
      refine ⟨by omega, fun c hc _ => ?_⟩
      rw [g3' c (by simp; omega) (bu.ne (by simp; omega))]
      exact ((kG _).get (by omega) (by simp)).trans (kg.get hc (by simp))
  · have hxi : i = xs.length := by omega
    subst hxi
    rw [List.take_length] at bu
    simp (disch := first | omega | (simp only [newRow_size, Array.size_setIfInBounds, Array.size_push]; done) | (simp only [newRow_size, Array.size_setIfInBounds, Array.size_push]; omega)) [l49_14, r49_3, hl, r49_15, eqT, eqF, neT, neF, ltT, ltF, leT, leF, nltT, nltF, nleT, nleF, nneT, nneF, flipX, List.getElem?_cons_zero, List.getElem?_cons_succ]
    exact Ans.of ⟨bu, kg⟩

end Go.Proofs.Ytkkagpchcefidaa
