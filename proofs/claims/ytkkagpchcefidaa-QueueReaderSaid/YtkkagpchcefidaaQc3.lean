/- The law's comparisons of lists that read alike. -/
import Derived.Test.YtkkagpchcefidaaQc2
set_option linter.unusedSimpArgs false
set_option linter.unusedVariables false
namespace Go.Proofs.Ytkkagpchcefidaa
open Go.Ev

theorem ints_same {F : Nat} (hF : 17592186044420 ≤ F) {ok ok' : Nat → Prop} {h : H} {v w : Value} {xs : List Int} (s : SlR ok 1 IntC h v xs) (t : SlR ok' 1 IntC h w xs) (hs : xs.length ≤ 17592186044416) : cf F 63 [v, w] h = some (.bool true, h) := by
  obtain ⟨F, rfl⟩ : ∃ G, F = G + 1 := ⟨F - 1, by omega⟩
  suffices hq : Ans (cf (F + 1) 63 [v, w] h) fun u h' => u = .bool true ∧ h' = h by
    obtain ⟨u, h', e, rfl, rfl⟩ := hq
    exact e
  have hl := s.len
  have hl2 := t.len
  rw [cf_step (a := a63) rfl rfl (by simp [a63])]
  simp (disch := first | omega | (simp only [newRow_size, Array.size_setIfInBounds, Array.size_push]; done) | (simp only [newRow_size, Array.size_setIfInBounds, Array.size_push]; omega)) [a63, r63_0, r63_1, r63_3, hl, hl2, eqT, eqF, neT, neF, ltT, ltF, leT, leF, nltT, nltF, nleT, nleF, nneT, nneF, flipX, List.getElem?_cons_zero, List.getElem?_cons_succ]
  refine loop_rule (fun m e g => ∃ (i : Nat), m = xs.length - i ∧ i ≤ xs.length ∧ e = [(0, v), (1, w), (5, .int .i64 i)] ∧ g = h) ?_ _ xs.length _ _ (by omega) ⟨0, by omega, by omega, rfl, rfl⟩
  rintro m e g again ⟨i, rfl, hi, rfl, rfl⟩ ih
  by_cases hlt : i < xs.length
  · obtain ⟨x, hx⟩ : ∃ x, xs[i]? = some x := ⟨_, List.getElem?_eq_getElem hlt⟩
    obtain ⟨b, o, c, cs, es, lv, an, rfl, hk, hg, hle, hat⟩ := s.at' hx
    obtain ⟨b', o', c', cs', es', lv', an', rfl, hk', hg', hle', hat'⟩ := t.at' hx
    have hat : (cs.drop (o + i * 1)).take 1 = [.int .i64 x] := hat
    have hat' : (cs'.drop (o' + i * 1)).take 1 = [.int .i64 x] := hat'
    rw [Nat.mul_one] at hat hat' hle hle'
    have hw : IntKind.i64.wrap ((i : Int) + 1) = ((i + 1 : Nat) : Int) := by rw [IntKind.wrap_i64]; omega
    simp (disch := first | omega | (simp only [newRow_size, Array.size_setIfInBounds, Array.size_push]; done) | (simp only [newRow_size, Array.size_setIfInBounds, Array.size_push]; omega)) [l63_8, r63_4, d63_5, r63_7, hg, hg', hat, hat', hw, eqT, eqF, neT, neF, ltT, ltF, leT, leF, nltT, nltF, nleT, nleF, nneT, nneF, flipX, List.getElem?_cons_zero, List.getElem?_cons_succ]
    exact ih _ _ _ (by omega) ⟨i + 1, rfl, by omega, rfl, rfl⟩
  · simp (disch := first | omega | (simp only [newRow_size, Array.size_setIfInBounds, Array.size_push]; done) | (simp only [newRow_size, Array.size_setIfInBounds, Array.size_push]; omega)) [l63_8, r63_4, hl, r63_9, eqT, eqF, neT, neF, ltT, ltF, leT, leF, nltT, nltF, nleT, nleF, nneT, nneF, flipX, List.getElem?_cons_zero, List.getElem?_cons_succ]
    exact Ans.of ⟨rfl, rfl⟩

theorem changes_same {F : Nat} (hF : 17592186044421 ≤ F) {ok ok' : Nat → Prop} {h : H} {v w : Value} {xs : List Tgd} (s : SlR ok 5 (TgdC ok) h v xs) (t : SlR ok' 5 (TgdC ok') h w xs) (hs : ShortT xs) : cf F 46 [v, w] h = some (.bool true, h) := by
  obtain ⟨F, rfl⟩ : ∃ G, F = G + 1 := ⟨F - 1, by omega⟩
  suffices hq : Ans (cf (F + 1) 46 [v, w] h) fun u h' => u = .bool true ∧ h' = h by
    obtain ⟨u, h', e, rfl, rfl⟩ := hq
    exact e
  obtain ⟨hs1, hs2⟩ := hs
  have hl := s.len
  have hl2 := t.len
  rw [cf_step (a := a46) rfl rfl (by simp [a46])]
  simp (disch := first | omega | (simp only [newRow_size, Array.size_setIfInBounds, Array.size_push]; done) | (simp only [newRow_size, Array.size_setIfInBounds, Array.size_push]; omega)) [a46, r46_0, r46_1, r46_3, hl, hl2, eqT, eqF, neT, neF, ltT, ltF, leT, leF, nltT, nltF, nleT, nleF, nneT, nneF, flipX, List.getElem?_cons_zero, List.getElem?_cons_succ]
  refine loop_rule (fun m e g => ∃ (i : Nat), m = xs.length - i ∧ i ≤ xs.length ∧ e = [(0, v), (1, w), (5, .int .i64 i)] ∧ g = h) ?_ _ xs.length _ _ (by omega) ⟨0, by omega, by omega, rfl, rfl⟩
  rintro m e g again ⟨i, rfl, hi, rfl, rfl⟩ ih
  by_cases hlt : i < xs.length
  · obtain ⟨x, hx⟩ : ∃ x, xs[i]? = some x := ⟨_, List.getElem?_eq_getElem hlt⟩
    obtain ⟨b, o, c, cs, es, lv, an, rfl, hk, hg, hle, hR⟩ := s.at' hx
    obtain ⟨b', o', c', cs', es', lv', an', rfl, hk', hg', hle', hR'⟩ := t.at' hx
    obtain ⟨vt, e5, e4, e1, st⟩ := hd_at hR hle
    obtain ⟨vt', e5', e4', e1', st'⟩ := hd_at hR' hle'
    have hw : IntKind.i64.wrap ((i : Int) + 1) = ((i + 1 : Nat) : Int) := by rw [IntKind.wrap_i64]; omega
    have hin := ints_same (F := F) (by omega) st st' (hs2 x (List.mem_of_getElem? hx))
    simp (disch := first | omega | (simp only [newRow_size, Array.size_setIfInBounds, Array.size_push]; done) | (simp only [newRow_size, Array.size_setIfInBounds, Array.size_push]; omega)) [l46_8, r46_4, d46_5, r46_7, hg, hg', e4, e4', e1, e1', hw, eqT, eqF, neT, neF, ltT, ltF, leT, leF, nltT, nltF, nleT, nleF, nneT, nneF, flipX, List.getElem?_cons_zero, List.getElem?_cons_succ, ba_self, ba_nself, hin]
    exact ih _ _ _ (by omega) ⟨i + 1, rfl, by omega, rfl, rfl⟩
  · simp (disch := first | omega | (simp only [newRow_size, Array.size_setIfInBounds, Array.size_push]; done) | (simp only [newRow_size, Array.size_setIfInBounds, Array.size_push]; omega)) [l46_8, r46_4, hl, r46_9, eqT, eqF, neT, neF, ltT, ltF, leT, leF, nltT, nltF, nleT, nleF, nneT, nneF, flipX, List.getElem?_cons_zero, List.getElem?_cons_succ]
    exact Ans.of ⟨rfl, rfl⟩

theorem pd_at {ok : Nat → Prop} {h : H} {cs : List Value} {n : Nat} {t : Prt} (q : PrtC ok h ((cs.drop n).take 5) t) (hle : n + 5 ≤ cs.length) : ∃ v, (cs.drop n).take 5 = [.int .i64 t.id, .int .i64 t.stamp, .string t.place, .int .i64 t.kind, v] ∧ (cs.drop n).take 1 = [.int .i64 t.id] ∧ (cs.drop (n + 1)).take 4 = [.int .i64 t.stamp, .string t.place, .int .i64 t.kind, v] ∧ SlR ok 3 SeenC h v t.nodes := by
  obtain ⟨v, e, s⟩ := q
  refine ⟨v, e, ?_, ?_, s⟩
  · have := congrArg (List.take 1) e
    rw [List.take_take] at this
    simpa using this
  · have := congrArg (List.drop 1) e
    rw [List.drop_take, List.drop_drop] at this
    simpa using this

theorem parts_same {F : Nat} (hF : 17592186044421 ≤ F) {ok ok' : Nat → Prop} {h : H} {v w : Value} {xs : List Prt} (s : SlR ok 5 (PrtC ok) h v xs) (t : SlR ok' 5 (PrtC ok') h w xs) (hs : ShortP xs) : Ans (cf F 47 [v, w] h) fun u h' => u = .bool true ∧ Kept h h' [] := by
  obtain ⟨F, rfl⟩ : ∃ G, F = G + 1 := ⟨F - 1, by omega⟩
  obtain ⟨hs1, hs2⟩ := hs
  have hl := s.len
  have hl2 := t.len
  rw [cf_step (a := a47) rfl rfl (by simp [a47])]
  simp (disch := first | omega | (simp only [newRow_size, Array.size_setIfInBounds, Array.size_push]; done) | (simp only [newRow_size, Array.size_setIfInBounds, Array.size_push]; omega)) [a47, r47_0, r47_1, r47_3, hl, hl2, eqT, eqF, neT, neF, ltT, ltF, leT, leF, nltT, nltF, nleT, nleF, nneT, nneF, flipX, List.getElem?_cons_zero, List.getElem?_cons_succ]
  refine loop_rule (fun m e g => ∃ (i : Nat), m = xs.length - i ∧ i ≤ xs.length ∧ e = [(0, v), (1, w), (5, .int .i64 i)] ∧ Kept h g []) ?_ _ xs.length _ _ (by omega) ⟨0, by omega, by omega, rfl, Kept.refl _ _⟩
  rintro m e g again ⟨i, rfl, hi, rfl, kg⟩ ih
  by_cases hlt : i < xs.length
  · obtain ⟨x, hx⟩ : ∃ x, xs[i]? = some x := ⟨_, List.getElem?_eq_getElem hlt⟩
    obtain ⟨b, o, c, cs, es, lv, an, rfl, hk, hg, hle, hR⟩ := (SlPrt.frame s kg.c).at' hx
    obtain ⟨b', o', c', cs', es', lv', an', rfl, hk', hg', hle', hR'⟩ := (SlPrt.frame t kg.c).at' hx
    obtain ⟨vt, e5, e1, e4, st⟩ := pd_at hR hle
    obtain ⟨vt', e5', e1', e4', st'⟩ := pd_at hR' hle'
    have hgs := lt_of_get hg
    have hgs' := lt_of_get hg'
    have hw : IntKind.i64.wrap ((i : Int) + 1) = ((i + 1 : Nat) : Int) := by rw [IntKind.wrap_i64]; omega
    have ho := st.one
    have ho' := st'.one
    simp only [oneCell] at ho ho'
    have hn := st.len
    have hn' := st'.len
    simp (disch := first | omega | (simp only [newRow_size, Array.size_setIfInBounds, Array.size_push]; done) | (simp only [newRow_size, Array.size_setIfInBounds, Array.size_push]; omega)) [l47_16, r47_4, r47_5, r47_6, hg, hg', e4, e4', e1, e1', hw, ho, ho', hn, hn', eqT, eqF, neT, neF, ltT, ltF, leT, leF, nltT, nltF, nleT, nleF, nneT, nneF, flipX, List.getElem?_cons_zero, List.getElem?_cons_succ, ba_self, ba_nself, d47_7, r47_9]
    have kN : Kept g (Ev.newRow (Ev.newRow g [.int .i64 x.stamp, .string x.place, .int .i64 x.kind, vt] 0 []) [.int .i64 x.stamp, .string x.place, .int .i64 x.kind, vt'] 0 []) [] := (rowKept _ _ _ _).trans (rowKept _ _ _ _)
    have st2 := SlSeen.imp st (ok' := ok) (fun _ _ q => q) (keep_of kN.c (by simp))
    have st2' := SlSeen.imp st' (ok' := ok') (fun _ _ q => q) (keep_of kN.c (by simp))
    have f1 : hget (Ev.newRow (Ev.newRow g [.int .i64 x.stamp, .string x.place, .int .i64 x.kind, vt] 0 []) [.int .i64 x.stamp, .string x.place, .int .i64 x.kind, vt'] 0 []) g.size = some (.cells [.int .i64 x.stamp, .string x.place, .int .i64 x.kind, vt] 0 true []) := by simp
    have f2 : hget (Ev.newRow (Ev.newRow g [.int .i64 x.stamp, .string x.place, .int .i64 x.kind, vt] 0 []) [.int .i64 x.stamp, .string x.place, .int .i64 x.kind, vt'] 0 []) (g.size + 1) = some (.cells [.int .i64 x.stamp, .string x.place, .int .i64 x.kind, vt'] 0 true []) := by simp
    generalize Ev.newRow (Ev.newRow g [.int .i64 x.stamp, .string x.place, .int .i64 x.kind, vt] 0 []) [.int .i64 x.stamp, .string x.place, .int .i64 x.kind, vt'] 0 [] = g1 at kN st2 st2' f1 f2 ⊢
    have htl := hs2 x (List.mem_of_getElem? hx)
    refine loop_rule (fun m e g2 => ∃ (k : Nat), m = x.nodes.length - k ∧ k ≤ x.nodes.length ∧ e = [(0, .slice (some ⟨b, o, none⟩) xs.length c), (1, .slice (some ⟨b', o', none⟩) xs.length c'), (5, .int .i64 i), (6, .pointer (some ⟨g.size, 0, none⟩)), (7, .pointer (some ⟨g.size + 1, 0, none⟩)), (8, .int .i64 k)] ∧ g2 = g1) ?_ _ x.nodes.length _ _ (by omega) ⟨0, by omega, by omega, rfl, rfl⟩
    rintro m e g2 again2 ⟨k, rfl, hk, rfl, rfl⟩ ih2
    have hwk : IntKind.i64.wrap ((k : Int) + 1) = ((k + 1 : Nat) : Int) := by rw [IntKind.wrap_i64]; omega
    by_cases hkl : k < x.nodes.length
    · obtain ⟨z, hz⟩ : ∃ z, x.nodes[k]? = some z := ⟨_, List.getElem?_eq_getElem hkl⟩
      obtain ⟨b2, o2, c2, cs2, es2, lv2, an2, rfl, hk2, hg2, hle2, hR2⟩ := st2.at' hz
      obtain ⟨b3, o3, c3, cs3, es3, lv3, an3, rfl, hk3, hg3, hle3, hR3⟩ := st2'.at' hz
      have hR2 : (cs2.drop (o2 + k * 3)).take 3 = [.string z.place, .string z.data, .int .i64 z.ver] := hR2
      have hR3 : (cs3.drop (o3 + k * 3)).take 3 = [.string z.place, .string z.data, .int .i64 z.ver] := hR3
      simp (disch := first | omega | (simp only [newRow_size, Array.size_setIfInBounds, Array.size_push]; done) | (simp only [newRow_size, Array.size_setIfInBounds, Array.size_push]; omega)) [l47_14, r47_10, f1, f2, hg2, hg3, hR2, hR3, eqT, eqF, neT, neF, ltT, ltF, leT, leF, nltT, nltF, nleT, nleF, nneT, nneF, flipX, List.getElem?_cons_zero, List.getElem?_cons_succ, d47_11, ba_self, ba_nself, r47_13, hwk]
      exact ih2 _ _ _ (by omega) ⟨k + 1, rfl, by omega, rfl, rfl⟩
    · simp (disch := first | omega | (simp only [newRow_size, Array.size_setIfInBounds, Array.size_push]; done) | (simp only [newRow_size, Array.size_setIfInBounds, Array.size_push]; omega)) [l47_14, r47_10, f1, hn, eqT, eqF, neT, neF, ltT, ltF, leT, leF, nltT, nltF, nleT, nleF, nneT, nneF, flipX, List.getElem?_cons_zero, List.getElem?_cons_succ, r47_15, hw]
      exact ih _ _ _ (by omega) ⟨i + 1, rfl, by omega, rfl, kg.trans kN⟩
  · simp (disch := first | omega | (simp only [newRow_size, Array.size_setIfInBounds, Array.size_push]; done) | (simp only [newRow_size, Array.size_setIfInBounds, Array.size_push]; omega)) [l47_16, r47_4, hl, r47_17, eqT, eqF, neT, neF, ltT, ltF, leT, leF, nltT, nltF, nleT, nleF, nneT, nneF, flipX, List.getElem?_cons_zero, List.getElem?_cons_succ]
    exact Ans.of ⟨rfl, kg⟩

def ShortI (xs : List Itm) : Prop := xs.length ≤ 1048576 ∧ ∀ t ∈ xs, ShortT t.chgs ∧ ShortP t.prts

theorem id_at {ok : Nat → Prop} {h : H} {cs : List Value} {n : Nat} {t : Itm} (q : ItmC ok h ((cs.drop n).take 5) t) (hle : n + 5 ≤ cs.length) : ∃ v w, (cs.drop n).take 5 = [.int .i64 t.stamp, .int .i64 t.after, .bool t.marker, v, w] ∧ (cs.drop n).take 1 = [.int .i64 t.stamp] ∧ (cs.drop (n + 1)).take 1 = [.int .i64 t.after] ∧ (cs.drop (n + 2)).take 1 = [.bool t.marker] ∧ (cs.drop (n + 3)).take 1 = [v] ∧ (cs.drop (n + 4)).take 1 = [w] ∧ SlR ok 5 (TgdC ok) h v t.chgs ∧ SlR ok 5 (PrtC ok) h w t.prts := by
  obtain ⟨v, w, e, s1, s2⟩ := q
  have hd : ∀ k, (cs.drop (n + k)).take (5 - k) = [Value.int .i64 t.stamp, .int .i64 t.after, .bool t.marker, v, w].drop k := by
    intro k
    rw [← e, List.drop_take, List.drop_drop]
  have h1 : ∀ k, k < 5 → (cs.drop (n + k)).take 1 = ([Value.int .i64 t.stamp, .int .i64 t.after, .bool t.marker, v, w].drop k).take 1 := by
    intro k hk
    rw [← hd k, List.take_take, Nat.min_eq_left (by omega)]
  refine ⟨v, w, e, ?_, ?_, ?_, ?_, ?_, s1, s2⟩
  · simpa using h1 0 (by omega)
  · simpa using h1 1 (by omega)
  · simpa using h1 2 (by omega)
  · simpa using h1 3 (by omega)
  · simpa using h1 4 (by omega)

theorem items_same {F : Nat} (hF : 17592186044422 ≤ F) {ok ok' : Nat → Prop} {h : H} {v w : Value} {xs : List Itm} (s : SlR ok 5 (ItmC ok) h v xs) (t : SlR ok' 5 (ItmC ok') h w xs) (hs : ShortI xs) : Ans (cf F 21 [v, w] h) fun u h' => u = .bool true ∧ Kept h h' [] := by
  obtain ⟨F, rfl⟩ : ∃ G, F = G + 1 := ⟨F - 1, by omega⟩
  obtain ⟨hs1, hs2⟩ := hs
  have hl := s.len
  have hl2 := t.len
  rw [cf_step (a := a21) rfl rfl (by simp [a21])]
  simp (disch := first | omega | (simp only [newRow_size, Array.size_setIfInBounds, Array.size_push]; done) | (simp only [newRow_size, Array.size_setIfInBounds, Array.size_push]; omega)) [a21, r21_0, r21_1, r21_3, hl, hl2, eqT, eqF, neT, neF, ltT, ltF, leT, leF, nltT, nltF, nleT, nleF, nneT, nneF, flipX, List.getElem?_cons_zero, List.getElem?_cons_succ]
  refine loop_rule (fun m e g => ∃ (i : Nat), m = xs.length - i ∧ i ≤ xs.length ∧ e = [(0, v), (1, w), (5, .int .i64 i)] ∧ Kept h g []) ?_ _ xs.length _ _ (by omega) ⟨0, by omega, by omega, rfl, Kept.refl _ _⟩
  rintro m e g again ⟨i, rfl, hi, rfl, kg⟩ ih
  by_cases hlt : i < xs.length
  · obtain ⟨x, hx⟩ : ∃ x, xs[i]? = some x := ⟨_, List.getElem?_eq_getElem hlt⟩
    obtain ⟨b, o, c, cs, es, lv, an, rfl, hk, hg, hle, hR⟩ := (SlItm.frame s kg.c).at' hx
    obtain ⟨b', o', c', cs', es', lv', an', rfl, hk', hg', hle', hR'⟩ := (SlItm.frame t kg.c).at' hx
    obtain ⟨v1, w1, _, e0, e1, e2, e3, e4, s1, s2⟩ := id_at hR hle
    obtain ⟨v1', w1', _, e0', e1', e2', e3', e4', s1', s2'⟩ := id_at hR' hle'
    have hw : IntKind.i64.wrap ((i : Int) + 1) = ((i + 1 : Nat) : Int) := by rw [IntKind.wrap_i64]; omega
    obtain ⟨ht, hp⟩ := hs2 x (List.mem_of_getElem? hx)
    have hc := changes_same (F := F) (by omega) s1 s1' ht
    simp (disch := first | omega | (simp only [newRow_size, Array.size_setIfInBounds, Array.size_push]; done) | (simp only [newRow_size, Array.size_setIfInBounds, Array.size_push]; omega)) [l21_8, r21_4, d21_5, hg, hg', e0, e0', e1, e1', e2, e2', e3, e3', e4, e4', hc, eqT, eqF, neT, neF, ltT, ltF, leT, leF, nltT, nltF, nleT, nleF, nneT, nneF, flipX, List.getElem?_cons_zero, List.getElem?_cons_succ]
    refine Ans.nextE (parts_same (F := F) (by omega) s2 s2' hp) ?_
    rintro u h2 ⟨rfl, k2⟩
    simp (disch := first | omega | (simp only [newRow_size, Array.size_setIfInBounds, Array.size_push]; done) | (simp only [newRow_size, Array.size_setIfInBounds, Array.size_push]; omega)) [r21_7, hw, eqT, eqF, neT, neF, ltT, ltF, leT, leF, nltT, nltF, nleT, nleF, nneT, nneF, flipX, List.getElem?_cons_zero, List.getElem?_cons_succ]
    exact ih _ _ _ (by omega) ⟨i + 1, rfl, by omega, rfl, kg.trans k2⟩
  · simp (disch := first | omega | (simp only [newRow_size, Array.size_setIfInBounds, Array.size_push]; done) | (simp only [newRow_size, Array.size_setIfInBounds, Array.size_push]; omega)) [l21_8, r21_4, hl, r21_9, eqT, eqF, neT, neF, ltT, ltF, leT, leF, nltT, nltF, nleT, nleF, nneT, nneF, flipX, List.getElem?_cons_zero, List.getElem?_cons_succ]
    exact Ans.of ⟨rfl, kg⟩

end Go.Proofs.Ytkkagpchcefidaa
