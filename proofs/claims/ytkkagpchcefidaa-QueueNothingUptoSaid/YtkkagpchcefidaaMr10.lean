/- Several texts in one: Dk17, Dk18, Dk19, Dk20, Dk21, Dk22, Dk23, Dk24, Qb8, Qb9, Qe0. -/
import Derived.Test.YtkkagpchcefidaaMr9

/- whole: what was handed in is as it was. -/
set_option linter.unusedSimpArgs false
set_option linter.unusedVariables false
namespace Go.Ev
theorem Laid.move {α : Type} {K : Kd α} {g0 g g' : H} {d N : Nat} {O0 o1 o3 L : List Nat} {l : List α} {m tgs : Value} {cs es last : List Value} {ps : List (List Nat)} (s : Laid K g0 g d O0 l m tgs N o1 o3 cs es ps last) (k : Kept g g' L) (hL : ∀ c ∈ L, c ∉ o1 ++ o3 ++ ps.flatten) : Laid K g' g' d (o1 ++ o3 ++ ps.flatten) l m tgs N o1 o3 cs es ps last := by
  have hd' : ∀ c ∈ o1 ++ o3 ++ ps.flatten, c ∉ L := fun c hc hc' => hL c hc' hc
  refine ⟨s.half.kept k hd', ?_, s.last', Moves.refl _ _, s.hd, Nat.lt_of_lt_of_le s.dlt k.1⟩
  refine s.rowed.keep rfl fun j hj t an h => ⟨h, ?_⟩
  have ht : t ∈ ps.flatten := mem_flatten_get.2 ⟨j, _, h, by simp⟩
  exact k.get (s.half.lt t (by simp only [List.mem_append]; exact .inr ht)) (hd' t (by simp only [List.mem_append]; exact .inr ht))

theorem row_last {cs : List Value} {n : Nat} {a b c d e : Value} (h : (cs.drop n).take 5 = [a, b, c, d, e]) : (cs.drop (n + 4)).take 1 = [e] ∧ (cs.drop n).take 1 = [a] ∧ n + 5 ≤ cs.length := by
  refine ⟨?_, ?_, ?_⟩
  · have := congrArg (List.drop 4) h
    rw [List.drop_take, List.drop_drop] at this
    simpa using this
  · have := congrArg (List.take 1) h
    rw [List.take_take] at this
    simpa using this
  · have := congrArg List.length h
    rw [List.length_take, List.length_drop] at this
    simp at this
    omega
end Go.Ev
namespace Go.Proofs.Ytkkagpchcefidaa
open Go.Ev

set_option maxHeartbeats 1000000 in
theorem whole_spec {F : Nat} (hF : 17592186044422 ≤ F) {h0 h : H} {d : Nat} {O0 : List Nat} {okL : Nat → Prop} {l : List Tgd} {v m tgs : Value} {N : Nat} {o1 o3 : List Nat} {cs es : List Value} {ps : List (List Nat)} (s : Laid KT h0 h d O0 l m tgs N o1 o3 cs es ps lastT)
    (sl : SlR okL 5 (TgdC okL) h v l) (hs1 : l.length ≤ 1048576) (hs2 : ∀ x ∈ l, x.tags.length ≤ 1048576) :
    Ans (cf F 37 [m, v] h) fun u h' => u = .bool true ∧ h' = h := by
  generalize hQ : (fun (u : Value) (h' : H) => u = Value.bool true ∧ h' = h) = Q
  obtain ⟨F, rfl⟩ : ∃ G, F = G + 1 := ⟨F - 1, by omega⟩
  rw [cf_step (a := a37) rfl rfl (by simp [a37])]
  have hl := sl.len
  obtain ⟨B, anB, c, rfl, rfl, hB, hcl, hlc⟩ := s.half.rowB (by omega)
  have sm := Laid.slT s rfl
  have hBs := lt_of_get hB
  simp (disch := first | omega | (simp only [newRow_size, Array.size_setIfInBounds, Array.size_push]; done) | (simp only [newRow_size, Array.size_setIfInBounds, Array.size_push]; omega)) [a37, r37_0, r37_1, hl, r37_2]
  refine loop_rule (fun mm e g => ∃ (i : Nat), mm = l.length - i ∧ i ≤ l.length ∧ e = [(0, .slice (some ⟨B, 0, none⟩) (l.length + 1) c), (1, v), (5, .int .i64 l.length), (6, .int .i64 i)] ∧ g = h) ?_ _ l.length _ _ (by omega) ⟨0, by omega, by omega, rfl, rfl⟩
  rintro mm e g again ⟨i, rfl, hil, rfl, rfl⟩ ih
  have hw : IntKind.i64.wrap ((i : Int) + 1) = ((i + 1 : Nat) : Int) := by rw [IntKind.wrap_i64]; omega
  by_cases hlt : i < l.length
  · obtain ⟨x, hx⟩ : ∃ x, l[i]? = some x := ⟨_, List.getElem?_eq_getElem hlt⟩
    obtain ⟨t, an, zs, c2, h1, h2, h3, h4, h5, h6⟩ := s.rowed i x hlt hx
    simp only [KT, Nat.mul_one] at h2 h3 h4 h5 h6
    obtain ⟨e4, e0, hle⟩ := row_last h2
    have hts := lt_of_get h3
    have hxs := hs2 x (List.mem_of_getElem? hx)
    have hw2 : IntKind.i64.wrap ((x.tags.length : Int) + 1) = ((x.tags.length + 1 : Nat) : Int) := by rw [IntKind.wrap_i64]; omega
    have h7 : (zs.drop x.tags.length).take 1 = [.int .i64 777] := by
      have := congrArg (List.drop x.tags.length) h6
      rw [List.drop_take, List.drop_left' (by simp [intsV])] at this
      rw [show x.tags.length + 1 - x.tags.length = 1 by omega] at this
      exact this
    have h5' : x.tags.length + 1 ≤ c2 := h5
    simp (disch := first | omega | (simp only [newRow_size, Array.size_setIfInBounds, Array.size_push]; done) | (simp only [newRow_size, Array.size_setIfInBounds, Array.size_push]; omega)) [l37_8, r37_3, eqT, eqF, neT, neF, ltT, ltF, leT, leF, nltT, nltF, nleT, nleF, nneT, nneF, List.getElem?_cons_zero, List.getElem?_cons_succ, r37_4, hB, e4, r37_5, hw2, slcV, optInt, h3, h7, h5', r37_7, hw]
    exact ih (l.length - (i + 1)) _ _ (by omega) ⟨i + 1, rfl, by omega, rfl, rfl⟩
  · have : i = l.length := by omega
    subst this
    obtain ⟨e4, e0, hle⟩ := row_last s.last'
    have hln : l.length ≤ c := by omega
    simp (disch := first | omega | (simp only [newRow_size, Array.size_setIfInBounds, Array.size_push]; done) | (simp only [newRow_size, Array.size_setIfInBounds, Array.size_push]; omega)) [l37_8, r37_3, eqT, eqF, neT, neF, ltT, ltF, leT, leF, nltT, nltF, nleT, nleF, nneT, nneF, List.getElem?_cons_zero, List.getElem?_cons_succ, r37_9, slcV, optInt, hln, changes_same (F := F) (by omega) sm sl ⟨by omega, fun t ht => by have := hs2 t ht; omega⟩, hB, e0, e4]
    subst hQ
    exact Ans.of ⟨rfl, rfl⟩

set_option maxHeartbeats 1000000 in
theorem wholes_spec {F : Nat} (hF : 17592186044422 ≤ F) {h0 h : H} {d : Nat} {O0 : List Nat} {okL : Nat → Prop} {l : List Prt} {v m tgs : Value} {N : Nat} {o1 o3 : List Nat} {cs es : List Value} {ps : List (List Nat)} (s : Laid KP h0 h d O0 l m tgs N o1 o3 cs es ps lastP)
    (sl : SlR okL 5 (PrtC okL) h v l) (hs1 : l.length ≤ 1048576) (hs2 : ∀ x ∈ l, x.nodes.length ≤ 1048576) :
    Ans (cf F 40 [m, v] h) fun u h' => u = .bool true ∧ Kept h h' [] := by
  generalize hQ : (fun (u : Value) (h' : H) => u = Value.bool true ∧ Kept h h' []) = Q
  obtain ⟨F, rfl⟩ : ∃ G, F = G + 1 := ⟨F - 1, by omega⟩
  rw [cf_step (a := a40) rfl rfl (by simp [a40])]
  have hl := sl.len
  obtain ⟨B, anB, c, rfl, rfl, hB, hcl, hlc⟩ := s.half.rowB (by omega)
  have sm := Laid.slP s rfl
  have hBs := lt_of_get hB
  simp (disch := first | omega | (simp only [newRow_size, Array.size_setIfInBounds, Array.size_push]; done) | (simp only [newRow_size, Array.size_setIfInBounds, Array.size_push]; omega)) [a40, r40_0, r40_1, hl, r40_2]
  refine loop_rule (fun mm e g => ∃ (i : Nat), mm = l.length - i ∧ i ≤ l.length ∧ e = [(0, .slice (some ⟨B, 0, none⟩) (l.length + 1) c), (1, v), (5, .int .i64 l.length), (6, .int .i64 i)] ∧ g = h) ?_ _ l.length _ _ (by omega) ⟨0, by omega, by omega, rfl, rfl⟩
  rintro mm e g again ⟨i, rfl, hil, rfl, rfl⟩ ih
  have hw : IntKind.i64.wrap ((i : Int) + 1) = ((i + 1 : Nat) : Int) := by rw [IntKind.wrap_i64]; omega
  by_cases hlt : i < l.length
  · obtain ⟨x, hx⟩ : ∃ x, l[i]? = some x := ⟨_, List.getElem?_eq_getElem hlt⟩
    obtain ⟨t, an, zs, c2, h1, h2, h3, h4, h5, h6⟩ := s.rowed i x hlt hx
    simp only [KP] at h2 h3 h4 h5 h6
    obtain ⟨e4, e0, hle⟩ := row_last h2
    have hts := lt_of_get h3
    have hxs := hs2 x (List.mem_of_getElem? hx)
    have hw2 : IntKind.i64.wrap ((x.nodes.length : Int) + 1) = ((x.nodes.length + 1 : Nat) : Int) := by rw [IntKind.wrap_i64]; omega
    have h7 : (zs.drop (x.nodes.length * 3)).take 1 = [.string str114_111_111_109] := by
      have := congrArg (List.drop (x.nodes.length * 3)) h6
      rw [List.drop_take, List.drop_left' (seenV_len _)] at this
      rw [show (x.nodes.length + 1) * 3 - x.nodes.length * 3 = 3 by omega] at this
      have := congrArg (List.take 1) this
      rw [List.take_take] at this
      exact this
    have h5' : x.nodes.length + 1 ≤ c2 := h5
    simp (disch := first | omega | (simp only [newRow_size, Array.size_setIfInBounds, Array.size_push]; done) | (simp only [newRow_size, Array.size_setIfInBounds, Array.size_push]; omega)) [l40_8, r40_3, eqT, eqF, neT, neF, ltT, ltF, leT, leF, nltT, nltF, nleT, nleF, nneT, nneF, List.getElem?_cons_zero, List.getElem?_cons_succ, r40_4, hB, e4, r40_5, hw2, slcV, optInt, h3, h7, h5', r40_7, hw, ba_nself]
    exact ih (l.length - (i + 1)) _ _ (by omega) ⟨i + 1, rfl, by omega, rfl, rfl⟩
  · have : i = l.length := by omega
    subst this
    obtain ⟨e4, e0, hle⟩ := row_last s.last'
    have hln : l.length ≤ c := by omega
    simp (disch := first | omega | (simp only [newRow_size, Array.size_setIfInBounds, Array.size_push]; done) | (simp only [newRow_size, Array.size_setIfInBounds, Array.size_push]; omega)) [l40_8, r40_3, eqT, eqF, neT, neF, ltT, ltF, leT, leF, nltT, nltF, nleT, nleF, nneT, nneF, List.getElem?_cons_zero, List.getElem?_cons_succ, r40_9, slcV, optInt, hln]
    refine Ans.next (parts_same (F := F) (by omega) sm sl ⟨by omega, fun t ht => by have := hs2 t ht; omega⟩) ?_
    rintro u h2 ⟨rfl, k2⟩
    have y2 := k2.1
    have g2 := (k2.get hBs (by simp)).trans hB
    simp (disch := first | omega | (simp only [newRow_size, Array.size_setIfInBounds, Array.size_push]; done) | (simp only [newRow_size, Array.size_setIfInBounds, Array.size_push]; omega)) [g2, eqT, eqF, neT, neF, ltT, ltF, leT, leF, nltT, nltF, nleT, nleF, nneT, nneF, List.getElem?_cons_zero, List.getElem?_cons_succ, e0, e4]
    subst hQ
    exact Ans.of ⟨rfl, k2⟩

end Go.Proofs.Ytkkagpchcefidaa

/- plays: what was handed in is written over. -/
set_option linter.unusedSimpArgs false
set_option linter.unusedVariables false
namespace Go.Ev

def cntAt {α : Type} (K : Kd α) (l : List α) (i : Nat) : Nat := match l[i]? with
  | some x => K.cnt x
  | none => 0

theorem SpI.row {α : Type} {K : Kd α} {g0 g : H} {O0 o1 o3 : List Nat} {l : List α} {cs0 cs es : List Value} {m tgs : Value} {N i : Nat} {ps : List (List Nat)} (s : SpI K g0 O0 l cs0 m tgs N es g i o1 o3 cs ps)
    (hrow : ∀ x v, ∃ a b c d, K.row x v = [a, b, c, d, v]) {last : List Value} (hl : (cs0.drop (l.length * 5)).take 5 = last) (hl5 : ∃ a b c d, last = [a, b, c, d, .slice none 0 0]) (hi : i ≤ l.length) :
    ∃ v, (cs.drop (i * 5 + 4)).take 1 = [v] ∧ i * 5 + 5 ≤ cs.length ∧ lenV v = some (.int .i64 (cntAt K l i)) ∧ (0 < cntAt K l i → ∃ t an zs cc, v = .slice (some ⟨t, 0, none⟩) (cntAt K l i) cc ∧ ps[i]? = some (t :: an) ∧ hget g t = some (.cells zs K.ww true an) ∧ zs.length = cc * K.ww ∧ cntAt K l i ≤ cc) := by
  by_cases h : i < l.length
  · obtain ⟨x, hx⟩ : ∃ x, l[i]? = some x := ⟨_, List.getElem?_eq_getElem h⟩
    obtain ⟨t, an, zs, c, h1, h2, h3, h4, h5⟩ := s.at' hx
    have hc : cntAt K l i = K.cnt x := by unfold cntAt; rw [hx]
    obtain ⟨a, b, c', d, e⟩ := hrow x (.slice (some ⟨t, 0, none⟩) (K.cnt x) c)
    rw [e] at h2
    obtain ⟨e4, _, hle⟩ := row_last h2
    rw [hc]
    exact ⟨_, e4, hle, by simp [lenV], fun _ => ⟨t, an, zs, c, rfl, h1, h3, h4, h5⟩⟩
  · have : i = l.length := by omega
    subst this
    have hc : cntAt K l l.length = 0 := by unfold cntAt; rw [List.getElem?_eq_none (Nat.le_refl _)]
    obtain ⟨a, b, c', d, e⟩ := hl5
    rw [e] at hl
    rw [← s.tail] at hl
    obtain ⟨e4, _, hle⟩ := row_last hl
    rw [hc]
    exact ⟨_, e4, hle, by simp [lenV], fun q => by omega⟩

end Go.Ev
namespace Go.Proofs.Ytkkagpchcefidaa
open Go.Ev

theorem rowKT (x : Tgd) (v : Value) : ∃ a b c d, KT.row x v = [a, b, c, d, v] := ⟨_, _, _, _, rfl⟩
theorem rowKP (x : Prt) (v : Value) : ∃ a b c d, KP.row x v = [a, b, c, d, v] := ⟨_, _, _, _, rfl⟩

def spT : ACode := (.seq (.region r19_7 [8, 10, 11, 12, 13, 14, 15]) (.block 1 (.loop [8, 10, 11, 12, 13, 14, 15] l19_16)))
def spP : ACode := (.seq (.region r19_23 [8, 17, 18, 19, 20, 21, 22]) (.block 5 (.loop [8, 17, 18, 19, 20, 21, 22] l19_32)))

set_option maxHeartbeats 1000000 in
theorem spT_spec {F : Nat} (hF : 17592186044420 ≤ F) {g0 : H} {O0 : List Nat} {l : List Tgd} {cs0 es : List Value} {m tgs : Value} {N : Nat} {o1 o3 : List Nat} {cs : List Value} {ps : List (List Nat)} {g : H} (s : SpI KT g0 O0 l cs0 m tgs N es g 0 o1 o3 cs ps) (hlast : (cs0.drop (l.length * 5)).take 5 = lastT) (hs1 : l.length ≤ 1048576) (hs2 : ∀ x ∈ l, x.tags.length ≤ 1048576)
    {a8 a10 a11 a13 a14 : Value} {kn kr : K} {ke : Nat → K} {Q : Value → H → Prop}
    (hk : ∀ g2 o1' cs' ps' (e : Env), SpI KT g0 O0 l cs0 m tgs N es g2 (l.length + 1) o1' o3 cs' ps' → Ans (kn ((8, a8) :: (10, a10) :: (11, a11) :: (12, m) :: (13, a13) :: (14, a14) :: e) g2 []) Q) :
    Ans (evC F (cf F) spT kn ke kr [(8, a8), (10, a10), (11, a11), (12, m), (13, a13), (14, a14)] g []) Q := by
  obtain ⟨B, anB0, c, _, rfl, _, _, hlc⟩ := s.half.rowB (by omega)
  simp (disch := first | omega | (simp only [newRow_size, Array.size_setIfInBounds, Array.size_push]; done) | (simp only [newRow_size, Array.size_setIfInBounds, Array.size_push]; omega)) [spT, r19_7]
  refine loop_rule (fun mm e g => ∃ (i : Nat) (o1 : List Nat) (cs : List Value) (ps : List (List Nat)), mm = l.length + 1 - i ∧ i ≤ l.length + 1 ∧ e = [(8, a8), (10, a10), (11, a11), (12, .slice (some ⟨B, 0, none⟩) (l.length + 1) c), (13, a13), (14, a14), (15, .int .i64 i)] ∧ SpI KT g0 O0 l cs0 (.slice (some ⟨B, 0, none⟩) (l.length + 1) c) tgs N es g i o1 o3 cs ps) ?_ _ (l.length + 1) _ _ (by omega) ⟨0, o1, cs, ps, by omega, by omega, rfl, s⟩
  clear s
  rintro mm e g again ⟨i, o1, cs, ps, rfl, hil, rfl, si⟩ ih
  have hw : IntKind.i64.wrap ((i : Int) + 1) = ((i + 1 : Nat) : Int) := by rw [IntKind.wrap_i64]; omega
  by_cases hlt : i < l.length + 1
  · have hcn : cntAt KT l i ≤ 1048576 := by
      unfold cntAt
      cases hx : l[i]? with
      | none => simp
      | some x => exact hs2 x (List.mem_of_getElem? hx)
    simp (disch := first | omega | (simp only [newRow_size, Array.size_setIfInBounds, Array.size_push]; done) | (simp only [newRow_size, Array.size_setIfInBounds, Array.size_push]; omega)) [l19_16, r19_8, eqT, eqF, neT, neF, ltT, ltF, leT, leF, nltT, nltF, nleT, nleF, nneT, nneF, List.getElem?_cons_zero, List.getElem?_cons_succ, r19_9]
    refine loop_rule (fun mm e g => ∃ (k : Nat) (ps : List (List Nat)), mm = cntAt KT l i - k ∧ k ≤ cntAt KT l i ∧ e = [(8, a8), (10, a10), (11, a11), (12, .slice (some ⟨B, 0, none⟩) (l.length + 1) c), (13, a13), (14, a14), (15, .int .i64 i), (16, .int .i64 k)] ∧ SpI KT g0 O0 l cs0 (.slice (some ⟨B, 0, none⟩) (l.length + 1) c) tgs N es g i o1 o3 cs ps) ?_ _ (cntAt KT l i) _ _ (by omega) ⟨0, ps, by omega, by omega, rfl, si⟩
    clear si
    rintro mm e g again2 ⟨k, ps, rfl, hkl, rfl, si⟩ ih2
    have hwk : IntKind.i64.wrap ((k : Int) + 1) = ((k + 1 : Nat) : Int) := by rw [IntKind.wrap_i64]; omega
    obtain ⟨v, e4, hle, hlv, hmore⟩ := si.row rowKT hlast ⟨_, _, _, _, rfl⟩ (by omega)
    obtain ⟨B', anB, c', rfl, em, hB, hcl, _⟩ := si.half.rowB (by omega)
    injection em with em _ em'
    injection em with em
    injection em with em _ _
    subst em em'
    have hBs := lt_of_get hB
    by_cases hkt : k < cntAt KT l i
    · obtain ⟨t, an, zs, cc, rfl, hp, hgt, hzl, hcc⟩ := hmore (by omega)
      have hts := lt_of_get hgt
      simp only [KT, Nat.mul_one] at hgt hzl
      have hzk : k + (1 + (zs.length - (k + 1))) = zs.length := by omega
      simp (disch := first | omega | (simp only [newRow_size, Array.size_setIfInBounds, Array.size_push]; done) | (simp only [newRow_size, Array.size_setIfInBounds, Array.size_push]; omega)) [l19_13, r19_10, hB, e4, hlv, eqT, eqF, neT, neF, ltT, ltF, leT, leF, nltT, nltF, nleT, nleF, nneT, nneF, List.getElem?_cons_zero, List.getElem?_cons_succ, r19_11, hgt, wr, r19_12, hwk]
      refine ih2 (cntAt KT l i - (k + 1)) _ _ (by omega) ⟨k + 1, _, rfl, by omega, rfl, si.poke (ys := zs.take k ++ .int .i64 666 :: zs.drop (k + 1)) hp hgt ?_⟩
      simp; omega
    · have : k = cntAt KT l i := by omega
      subst this
      simp (disch := first | omega | (simp only [newRow_size, Array.size_setIfInBounds, Array.size_push]; done) | (simp only [newRow_size, Array.size_setIfInBounds, Array.size_push]; omega)) [l19_13, r19_10, hB, e4, hlv, eqT, eqF, neT, neF, ltT, ltF, leT, leF, nltT, nltF, nleT, nleF, nneT, nneF, List.getElem?_cons_zero, List.getElem?_cons_succ, r19_14, wr, r19_15, hw]
      refine ih (l.length + 1 - (i + 1)) _ _ (by omega) ⟨i + 1, _, _, _, rfl, by omega, rfl, si.next (ys := cs.take (i * 5 + 1) ++ .string str115_112_111_105_108_116 :: cs.drop (i * 5 + 1 + 1)) rfl hB ?_ ?_⟩
      · simp; omega
      · rw [List.drop_append, List.drop_of_length_le (by simp; omega), List.nil_append, List.length_take, Nat.min_eq_left (by omega), show (i + 1) * 5 - (i * 5 + 1) = 4 by omega]
        simp only [List.drop_succ_cons, List.drop_drop]
        congr 1
        omega
  · have : i = l.length + 1 := by omega
    subst this
    simp (disch := first | omega | (simp only [newRow_size, Array.size_setIfInBounds, Array.size_push]; done) | (simp only [newRow_size, Array.size_setIfInBounds, Array.size_push]; omega)) [l19_16, r19_8, eqT, eqF, neT, neF, ltT, ltF, leT, leF, nltT, nltF, nleT, nleF, nneT, nneF, List.getElem?_cons_zero, List.getElem?_cons_succ]
    exact hk _ _ _ _ _ si

end Go.Proofs.Ytkkagpchcefidaa

/- plays: the parts that were handed in are written over. -/
set_option linter.unusedSimpArgs false
set_option linter.unusedVariables false
namespace Go.Proofs.Ytkkagpchcefidaa
open Go.Ev

set_option maxHeartbeats 1000000 in
theorem spP_spec {F : Nat} (hF : 17592186044420 ≤ F) {g0 : H} {O0 : List Nat} {l : List Prt} {cs0 es : List Value} {m tgs : Value} {N : Nat} {o1 o3 : List Nat} {cs : List Value} {ps : List (List Nat)} {g : H} (s : SpI KP g0 O0 l cs0 m tgs N es g 0 o1 o3 cs ps) (hlast : (cs0.drop (l.length * 5)).take 5 = lastP) (hs1 : l.length ≤ 1048576) (hs2 : ∀ x ∈ l, x.nodes.length ≤ 1048576)
    {a8 a10 a11 a13 a14 : Value} {kn kr : K} {ke : Nat → K} {Q : Value → H → Prop}
    (hk : ∀ g2 o1' cs' ps' (e : Env), SpI KP g0 O0 l cs0 m tgs N es g2 (l.length + 1) o1' o3 cs' ps' → Ans (kn ((8, a8) :: (17, a10) :: (18, a11) :: (19, m) :: (20, a13) :: (21, a14) :: e) g2 []) Q) :
    Ans (evC F (cf F) spP kn ke kr [(8, a8), (17, a10), (18, a11), (19, m), (20, a13), (21, a14)] g []) Q := by
  obtain ⟨B, anB0, c, _, rfl, _, _, hlc⟩ := s.half.rowB (by omega)
  simp (disch := first | omega | (simp only [newRow_size, Array.size_setIfInBounds, Array.size_push]; done) | (simp only [newRow_size, Array.size_setIfInBounds, Array.size_push]; omega)) [spP, r19_23]
  refine loop_rule (fun mm e g => ∃ (i : Nat) (o1 : List Nat) (cs : List Value) (ps : List (List Nat)), mm = l.length + 1 - i ∧ i ≤ l.length + 1 ∧ e = [(8, a8), (17, a10), (18, a11), (19, .slice (some ⟨B, 0, none⟩) (l.length + 1) c), (20, a13), (21, a14), (22, .int .i64 i)] ∧ SpI KP g0 O0 l cs0 (.slice (some ⟨B, 0, none⟩) (l.length + 1) c) tgs N es g i o1 o3 cs ps) ?_ _ (l.length + 1) _ _ (by omega) ⟨0, o1, cs, ps, by omega, by omega, rfl, s⟩
  clear s
  rintro mm e g again ⟨i, o1, cs, ps, rfl, hil, rfl, si⟩ ih
  have hw : IntKind.i64.wrap ((i : Int) + 1) = ((i + 1 : Nat) : Int) := by rw [IntKind.wrap_i64]; omega
  by_cases hlt : i < l.length + 1
  · have hcn : cntAt KP l i ≤ 1048576 := by
      unfold cntAt
      cases hx : l[i]? with
      | none => simp
      | some x => exact hs2 x (List.mem_of_getElem? hx)
    simp (disch := first | omega | (simp only [newRow_size, Array.size_setIfInBounds, Array.size_push]; done) | (simp only [newRow_size, Array.size_setIfInBounds, Array.size_push]; omega)) [l19_32, r19_24, eqT, eqF, neT, neF, ltT, ltF, leT, leF, nltT, nltF, nleT, nleF, nneT, nneF, List.getElem?_cons_zero, List.getElem?_cons_succ, r19_25]
    refine loop_rule (fun mm e g => ∃ (k : Nat) (ps : List (List Nat)), mm = cntAt KP l i - k ∧ k ≤ cntAt KP l i ∧ e = [(8, a8), (17, a10), (18, a11), (19, .slice (some ⟨B, 0, none⟩) (l.length + 1) c), (20, a13), (21, a14), (22, .int .i64 i), (23, .int .i64 k)] ∧ SpI KP g0 O0 l cs0 (.slice (some ⟨B, 0, none⟩) (l.length + 1) c) tgs N es g i o1 o3 cs ps) ?_ _ (cntAt KP l i) _ _ (by omega) ⟨0, ps, by omega, by omega, rfl, si⟩
    clear si
    rintro mm e g again2 ⟨k, ps, rfl, hkl, rfl, si⟩ ih2
    have hwk : IntKind.i64.wrap ((k : Int) + 1) = ((k + 1 : Nat) : Int) := by rw [IntKind.wrap_i64]; omega
    obtain ⟨v, e4, hle, hlv, hmore⟩ := si.row rowKP hlast ⟨_, _, _, _, rfl⟩ (by omega)
    obtain ⟨B', anB, c', rfl, em, hB, hcl, _⟩ := si.half.rowB (by omega)
    injection em with em _ em'
    injection em with em
    injection em with em _ _
    subst em em'
    have hBs := lt_of_get hB
    by_cases hkt : k < cntAt KP l i
    · obtain ⟨t, an, zs, cc, rfl, hp, hgt, hzl, hcc⟩ := hmore (by omega)
      have hts := lt_of_get hgt
      simp only [KP] at hgt hzl
      simp (disch := first | omega | (simp only [newRow_size, Array.size_setIfInBounds, Array.size_push]; done) | (simp only [newRow_size, Array.size_setIfInBounds, Array.size_push]; omega)) [l19_29, r19_26, hB, e4, hlv, eqT, eqF, neT, neF, ltT, ltF, leT, leF, nltT, nltF, nleT, nleF, nneT, nneF, List.getElem?_cons_zero, List.getElem?_cons_succ, r19_27, hgt, wr, r19_28, hwk]
      refine ih2 (cntAt KP l i - (k + 1)) _ _ (by omega) ⟨k + 1, _, rfl, by omega, rfl, si.poke (ys := zs.take (k * 3) ++ .string str115_112_111_105_108_116 :: zs.drop (k * 3 + 1)) hp hgt ?_⟩
      simp; omega
    · have : k = cntAt KP l i := by omega
      subst this
      simp (disch := first | omega | (simp only [newRow_size, Array.size_setIfInBounds, Array.size_push]; done) | (simp only [newRow_size, Array.size_setIfInBounds, Array.size_push]; omega)) [l19_29, r19_26, hB, e4, hlv, eqT, eqF, neT, neF, ltT, ltF, leT, leF, nltT, nltF, nleT, nleF, nneT, nneF, List.getElem?_cons_zero, List.getElem?_cons_succ, r19_30, wr, r19_31, hw]
      refine ih (l.length + 1 - (i + 1)) _ _ (by omega) ⟨i + 1, _, _, _, rfl, by omega, rfl, si.next (ys := cs.take (i * 5) ++ .int .i64 666 :: cs.drop (i * 5 + 1)) rfl hB ?_ ?_⟩
      · simp; omega
      · rw [List.drop_append, List.drop_of_length_le (by simp; omega), List.nil_append, List.length_take, Nat.min_eq_left (by omega), show (i + 1) * 5 - i * 5 = 5 by omega]
        simp only [List.drop_succ_cons, List.drop_drop]
        congr 1
        omega
  · have : i = l.length + 1 := by omega
    subst this
    simp (disch := first | omega | (simp only [newRow_size, Array.size_setIfInBounds, Array.size_push]; done) | (simp only [newRow_size, Array.size_setIfInBounds, Array.size_push]; omega)) [l19_32, r19_24, eqT, eqF, neT, neF, ltT, ltF, leT, leF, nltT, nltF, nleT, nleF, nneT, nneF, List.getElem?_cons_zero, List.getElem?_cons_succ]
    exact hk _ _ _ _ _ si

end Go.Proofs.Ytkkagpchcefidaa

/- The program's queue, there or nil. -/
set_option linter.unusedSimpArgs false
set_option linter.unusedVariables false
namespace Go.Proofs.Ytkkagpchcefidaa
open Go.Ev

def QS (ok : Nat → Prop) (h : H) (qv : Value) (q : Qm) (W : List Nat) : Prop :=
  (qv = .pointer none ∧ q = q0 ∧ W = []) ∨ ∃ b r first, qv = .pointer (some ⟨b, 0, none⟩) ∧ QAt ok h b 0 r first q ∧ W = b :: r.toList

theorem put_q0 (stamp : Int) (l : List Tgd) : (putM q0 stamp l).2 = q0 := by
  unfold putM
  split
  · rfl
  split
  · rfl
  split
  · rfl
  · rename_i h; exact (h (by simp [q0])).elim
theorem coll_q0 (stamp : Int) (l : List Prt) : (collM q0 stamp l).2 = q0 := by
  unfold collM
  split
  · rfl
  split
  · rfl
  split
  · rfl
  · rename_i h; exact (h rfl).elim
theorem took_q0 (stamp : Int) : tookM q0 stamp = (0, q0) := rfl
theorem next_q0 (most : Int) : nextM q0 most = [] := by simp [nextM, q0]

section
variable {ok ok' : Nat → Prop} {h h' : H} {qv : Value} {q : Qm} {W L : List Nat}

theorem QS.okW (s : QS ok h qv q W) : ∀ c ∈ W, ¬ ok c := by
  rcases s with ⟨_, _, rfl⟩ | ⟨b, r, first, _, s, rfl⟩
  · simp
  · intro c hc
    rcases List.mem_cons.1 hc with rfl | hc
    · exact s.okb
    · rw [Option.mem_toList] at hc
      exact (s.yes c hc).2.2.2.1
theorem QS.lt (s : QS ok h qv q W) : ∀ c ∈ W, c < h.size := by
  rcases s with ⟨_, _, rfl⟩ | ⟨b, r, first, _, s, rfl⟩
  · simp
  · intro c hc
    rcases List.mem_cons.1 hc with rfl | hc
    · exact lt_of_get s.at'
    · rw [Option.mem_toList] at hc
      obtain ⟨_, _, _, _, cs, e, _⟩ := s.yes c hc
      exact lt_of_get e
theorem QS.imp (s : QS ok h qv q W) (h1 : ∀ c, c < h.size → ok c → ok' c) (h2 : ∀ c ∈ W, ¬ ok' c) : QS ok' h qv q W := by
  rcases s with s | ⟨b, r, first, e, s, rfl⟩
  · exact .inl s
  · exact .inr ⟨b, r, first, e, s.imp h1 (h2 b (by simp)) (fun c e => h2 c (by simp [e])), rfl⟩
theorem QS.kept (s : QS ok h qv q W) (k : Kept h h' L) (hL : ∀ c ∈ L, c ∉ W ∧ ¬ ok c) : QS ok h' qv q W := by
  rcases s with s | ⟨b, r, first, e, s, rfl⟩
  · exact .inl s
  · exact .inr ⟨b, r, first, e, s.kept k (fun q => (hL b q).1 (by simp)) (fun c e q => (hL c q).1 (by simp [e])) (fun c q => (hL c q).2), rfl⟩
end

theorem QS.put {F : Nat} (hF : 17592186044430 ≤ F) {ok ok2 : Nat → Prop} {h : H} {qv : Value} {q : Qm} {W : List Nat} (s : QS ok h qv q W) (g : q.Good) {v : Value} {l : List Tgd}
    (sl : SlR ok2 5 (TgdC ok2) h v l) (hb2 : ∀ c ∈ W, ¬ ok2 c) (hs : ShortT l) (hok : ∀ c, h.size ≤ c → ok c) (stamp : Int) :
    Ans (cf F 27 [qv, .int .i64 stamp, v] h) fun u h' => u = .int .i64 (putM q stamp l).1 ∧ QS ok h' qv (putM q stamp l).2 W ∧ Kept h h' W := by
  rcases s with ⟨rfl, rfl, rfl⟩ | ⟨b, r, first, rfl, s, rfl⟩
  · refine (Put_nil (F := F) hF sl hs stamp).mono ?_
    rintro u h' ⟨e, k⟩
    exact ⟨e, .inl ⟨rfl, put_q0 _ _, rfl⟩, k⟩
  · refine (Put_spec (F := F) hF s g sl (hb2 b (by simp)) hs hok stamp).mono ?_
    rintro u h' ⟨e, s', k⟩
    exact ⟨e, .inr ⟨b, r, first, rfl, s', rfl⟩, k⟩

theorem QS.coll {F : Nat} (hF : 17592186044430 ≤ F) {ok ok2 : Nat → Prop} {h : H} {qv : Value} {q : Qm} {W : List Nat} (s : QS ok h qv q W) (g : q.Good) {v : Value} {l : List Prt}
    (sl : SlR ok2 5 (PrtC ok2) h v l) (hb2 : ∀ c ∈ W, ¬ ok2 c) (hs : ShortP l) (hok : ∀ c, h.size ≤ c → ok c) (stamp : Int) :
    Ans (cf F 29 [qv, .int .i64 stamp, v] h) fun u h' => u = .int .i64 (collM q stamp l).1 ∧ QS ok h' qv (collM q stamp l).2 W ∧ Kept h h' W := by
  rcases s with ⟨rfl, rfl, rfl⟩ | ⟨b, r, first, rfl, s, rfl⟩
  · refine (Collapse_nil (F := F) hF sl stamp).mono ?_
    rintro u h' ⟨e, k⟩
    exact ⟨e, .inl ⟨rfl, coll_q0 _ _, rfl⟩, k⟩
  · refine (Collapse_spec (F := F) hF s g sl (hb2 b (by simp)) (fun c e => hb2 c (by simp [e])) hs hok stamp).mono ?_
    rintro u h' ⟨f', e, s', k⟩
    exact ⟨e, .inr ⟨b, r, f', rfl, s', rfl⟩, k⟩

theorem QS.took {F : Nat} (hF : 100 ≤ F) {ok : Nat → Prop} {h : H} {qv : Value} {q : Qm} {W : List Nat} (s : QS ok h qv q W) (g : q.Good) (stamp : Int) :
    Ans (cf F 30 [qv, .int .i64 stamp] h) fun u h' => u = .int .i64 (tookM q stamp).1 ∧ QS ok h' qv (tookM q stamp).2 W ∧ Kept h h' W := by
  rcases s with ⟨rfl, rfl, rfl⟩ | ⟨b, r, first, rfl, s, rfl⟩
  · rw [Took_nil (F := F) (by omega)]
    exact Ans.of ⟨rfl, .inl ⟨rfl, rfl, rfl⟩, Kept.refl _ _⟩
  · refine (Took_spec (F := F) hF s g stamp).mono ?_
    rintro u h' ⟨e, f', s', k⟩
    exact ⟨e, .inr ⟨b, r, f', rfl, s', rfl⟩, k⟩

theorem QS.next {F : Nat} (hF : 17592186044430 ≤ F) {ok : Nat → Prop} {h : H} {qv : Value} {q : Qm} {W : List Nat} (s : QS ok h qv q W) (g : q.Good) (hs : ShortI q.items) (most : Int) :
    Ans (cf F 20 [qv, .int .i64 most] h) fun u h' => SlR (since h.size) 5 (ItmC (since h.size)) h' u (nextM q most) ∧ QS ok h' qv q W ∧ Kept h h' W := by
  rcases s with ⟨rfl, rfl, rfl⟩ | ⟨b, r, first, rfl, s, rfl⟩
  · rw [Next_nil (F := F) (by omega)]
    exact Ans.of ⟨.inl ⟨.inl rfl, next_q0 _⟩, .inl ⟨rfl, rfl, rfl⟩, Kept.refl _ _⟩
  · refine (Next_spec (F := F) hF s g hs most).mono ?_
    rintro u h' ⟨e, s', k⟩
    exact ⟨e.sl, .inr ⟨b, r, first, rfl, s', rfl⟩, k.weak (by simp)⟩

theorem QS.len_eq {F : Nat} (hF : 3 ≤ F) {ok : Nat → Prop} {h : H} {qv : Value} {q : Qm} {W : List Nat} (s : QS ok h qv q W) : cf F 25 [qv] h = some (.int .i64 q.items.length, h) := by
  rcases s with ⟨rfl, rfl, rfl⟩ | ⟨b, r, first, rfl, s, rfl⟩
  · exact Len_nil (F := F) (by omega) _
  · exact Len_eq (F := F) hF s
theorem QS.last_eq {F : Nat} (hF : 3 ≤ F) {ok : Nat → Prop} {h : H} {qv : Value} {q : Qm} {W : List Nat} (s : QS ok h qv q W) : cf F 24 [qv] h = some (.int .i64 q.last, h) := by
  rcases s with ⟨rfl, rfl, rfl⟩ | ⟨b, r, first, rfl, s, rfl⟩
  · exact Last_nil (F := F) (by omega) _
  · exact Last_eq (F := F) hF s

end Go.Proofs.Ytkkagpchcefidaa

/- The state of a script: the program's queue, the document's, the desk. -/
set_option linter.unusedSimpArgs false
set_option linter.unusedVariables false
namespace Go.Ev
theorem AtRest.kept {ww : Nat} {h h' : H} {d : Nat} {tg tgs : Value} {O L : List Nat} (s : AtRest ww h d tg tgs O) (k : Kept h h' L) (hL : ∀ c ∈ O, c ∉ L) : AtRest ww h' d tg tgs O := by
  obtain ⟨⟨n, N, o1, o3, cs, es, ps, hf, rfl⟩, hd, dl⟩ := s
  exact ⟨⟨n, N, o1, o3, cs, es, ps, hf.kept k hL, rfl⟩, hd, Nat.lt_of_lt_of_le dl k.1⟩
theorem AtRest.lt {ww : Nat} {h : H} {d : Nat} {tg tgs : Value} {O : List Nat} (s : AtRest ww h d tg tgs O) : ∀ c ∈ O, c < h.size := by
  obtain ⟨⟨n, N, o1, o3, cs, es, ps, hf, rfl⟩, hd, dl⟩ := s
  exact hf.lt

/-- The desk. -/
def DeskS (h : H) (d : Nat) (D : List Nat) : Prop := ∃ tg pt tgs nds O O', hget h d = some (.cells [tg, pt, tgs, nds] 0 true []) ∧ AtRest 1 h d tg tgs O ∧ AtRest 3 h d pt nds O' ∧ D = d :: (O ++ O') ∧ (∀ c ∈ O, c ∉ O')

theorem DeskS.kept {h h' : H} {d : Nat} {D L : List Nat} (s : DeskS h d D) (k : Kept h h' L) (hL : ∀ c ∈ D, c ∉ L) : DeskS h' d D := by
  obtain ⟨tg, pt, tgs, nds, O, O', e1, e2, e3, rfl, e4⟩ := s
  exact ⟨tg, pt, tgs, nds, O, O', (k.get (lt_of_get e1) (hL d (by simp))).trans e1, e2.kept k (fun c hc => hL c (by simp [hc])), e3.kept k (fun c hc => hL c (by simp [hc])), rfl, e4⟩
theorem DeskS.lt {h : H} {d : Nat} {D : List Nat} (s : DeskS h d D) : ∀ c ∈ D, c < h.size := by
  obtain ⟨tg, pt, tgs, nds, O, O', e1, e2, e3, rfl, e4⟩ := s
  intro c hc
  simp only [List.mem_cons, List.mem_append] at hc
  rcases hc with rfl | hc | hc
  · exact lt_of_get e1
  · exact e2.lt c hc
  · exact e3.lt c hc
end Go.Ev
namespace Go.Proofs.Ytkkagpchcefidaa
open Go.Ev

structure PlS (P : Nat → Prop) (h : H) (qv : Value) (q : Qm) (W : List Nat) (cs : List Value) (d : Nat) (D : List Nat) : Prop where
  qs : QS P h qv q W
  rf : RefC P h cs q
  dk : DeskS h d D
  pd : ∀ c ∈ D, ¬ P c
  wd : ∀ c ∈ D, c ∉ W
  plt : ∀ c, P c → c < h.size

def okA (P : Nat → Prop) (g : H) (n m : Nat) (c : Nat) : Prop := ((P c ∨ g.size ≤ c) ∧ c < n) ∨ m ≤ c

theorem PlS.kept {P : Nat → Prop} {h h' : H} {qv : Value} {q : Qm} {W : List Nat} {cs : List Value} {d : Nat} {D L : List Nat} (s : PlS P h qv q W cs d D) (k : Kept h h' L) (hL : ∀ c ∈ L, c ∉ W ∧ c ∉ D ∧ ¬ P c) : PlS P h' qv q W cs d D :=
  ⟨s.qs.kept k (fun c hc => ⟨(hL c hc).1, (hL c hc).2.2⟩), s.rf.imp (fun _ _ q => q) (keep_of k.c (fun c hc => (hL c hc).2.2)), s.dk.kept k (fun c hc hc' => (hL c hc').2.1 hc), s.pd, s.wd, fun c hc => Nat.lt_of_lt_of_le (s.plt c hc) k.1⟩

/-- A step that lays: ahead of the queue's own step, and behind it. -/
theorem PlS.lay {P : Nat → Prop} {g g1 g2 g3 : H} {qv : Value} {q q' : Qm} {W : List Nat} {cs cs1 : List Value} {d : Nat} {D D3 : List Nat} (s : PlS P g qv q W cs d D)
    (k1 : Kept g g1 []) (rf : RefC (fun c => P c ∨ g.size ≤ c) g1 cs1 q') (k2 : Kept g1 g2 []) (m3 : Moves g2 g3 D D3) (l3 : ∀ c ∈ D3, c < g3.size) :
    QS (okA P g g1.size g3.size) g3 qv q W ∧ ∀ g4 g5 D5, QS (okA P g g1.size g3.size) g4 qv q' W → Kept g3 g4 W → Moves g4 g5 D3 D5 → DeskS g5 d D5 →
      PlS (fun c => okA P g g1.size g3.size c ∧ c < g4.size) g5 qv q' W cs1 d D5 ∧ Moves g g5 (W ++ D) (W ++ D5) ∧ (∀ c, okA P g g1.size g3.size c ∧ c < g4.size → P c ∨ g.size ≤ c) ∧ (∀ c, c < g2.size → c ∉ W → c ∉ D → hget g5 c = hget g2 c) := by
  have hDl := s.dk.lt
  have hWl := s.qs.lt
  have hWo := s.qs.okW
  have y1 := k1.1
  have y2 := k2.1
  have y3 := m3.1.1
  have hWA : ∀ c ∈ W, ¬ okA P g g1.size g3.size c := by
    intro c hc q
    have := hWl c hc
    rcases q with ⟨q | q, _⟩ | q
    · exact hWo c hc q
    · omega
    · omega
  have hDA : ∀ c ∈ D, ¬ okA P g g1.size g3.size c := by
    intro c hc q
    have := hDl c hc
    rcases q with ⟨q | q, _⟩ | q
    · exact s.pd c hc q
    · omega
    · omega
  have h3W : ∀ c ∈ D3, c ∉ W := by
    intro c hc hw
    rcases m3.2 c hc with q | q
    · exact s.wd c q hw
    · have := hWl c hw; omega
  have h3A : ∀ c ∈ D3, ¬ okA P g g1.size g3.size c := by
    intro c hc q
    have := l3 c hc
    rcases m3.2 c hc with r | r
    · exact hDA c r q
    · rcases q with ⟨_, q⟩ | q
      · omega
      · omega
  have q3 : QS (okA P g g1.size g3.size) g3 qv q W := by
    refine QS.kept (QS.imp (QS.kept s.qs (k1.trans k2) (by simp)) ?_ hWA) m3.1 ?_
    · intro c hc hp
      exact .inl ⟨.inl hp, by have := s.plt c hp; omega⟩
    · exact fun c hc => ⟨s.wd c hc, hDA c hc⟩
  refine ⟨q3, ?_⟩
  intro g4 g5 D5 q4 k4 m5 dk5
  have y4 := k4.1
  have y5 := m5.1.1
  have q5 : QS (fun c => okA P g g1.size g3.size c ∧ c < g4.size) g5 qv q' W := by
    refine QS.kept (QS.imp q4 (fun c hc hp => ⟨hp, hc⟩) (fun c hc hp => hWA c hc hp.1)) m5.1 ?_
    exact fun c hc => ⟨h3W c hc, fun q => h3A c hc q.1⟩
  have hkeep : ∀ c, c < g2.size → c ∉ W → c ∉ D → hget g5 c = hget g2 c := by
    intro c hc hw hd
    have h3 : c ∉ D3 := fun q => by
      rcases m3.2 c q with r | r
      · exact hd r
      · omega
    exact (m5.1.get (by omega) h3).trans ((k4.get (by omega) hw).trans (m3.1.get hc hd))
  have rf5 : RefC (fun c => okA P g g1.size g3.size c ∧ c < g4.size) g5 cs1 q' := by
    refine (RefC.now rf).imp (fun c hc hp => ⟨.inl ⟨hp.1, hc⟩, by omega⟩) ?_
    intro b zs hb hz
    refine (cel_congr ?_).trans hz
    refine (hkeep b (by omega) ?_ ?_).trans (k2.get hb.2 (by simp))
    · exact fun q => hWA b q (.inl hb)
    · exact fun q => hDA b q (.inl hb)
  refine ⟨⟨q5, rf5, dk5, ?_, ?_, fun c hc => by omega⟩, ⟨⟨by omega, ?_⟩, ?_⟩, ?_, hkeep⟩
  · intro c hc q
    rcases m5.2 c hc with r | r
    · exact h3A c r q.1
    · omega
  · intro c hc hw
    rcases m5.2 c hc with r | r
    · exact h3W c r hw
    · have := hWl c hw; omega
  · intro c hc hn
    simp only [List.mem_append, not_or] at hn
    exact (hkeep c (by omega) hn.1 hn.2).trans ((k1.trans k2).get hc (by simp))
  · intro c hc
    simp only [List.mem_append] at hc ⊢
    rcases hc with hc | hc
    · exact .inl (.inl hc)
    · rcases m5.2 c hc with r | r
      · rcases m3.2 c r with r | r
        · exact .inl (.inr r)
        · exact .inr (by omega)
      · exact .inr (by omega)
  · intro c hc
    rcases hc with ⟨⟨hc, _⟩ | hc, _⟩
    · exact hc
    · exact .inr (by omega)

end Go.Proofs.Ytkkagpchcefidaa

/- plays: Put. -/
set_option linter.unusedSimpArgs false
set_option linter.unusedVariables false
namespace Go.Proofs.Ytkkagpchcefidaa
open Go.Ev

def putC : ACode := (.seq (.region r19_3 [0, 3, 6, 8, 10, 11]) (.seq (.region r19_4 [0, 6, 8, 10, 11, 12]) (.seq (.regionD d19_5 [] [6, 8, 10, 11, 12, 13]) (.seq (.region r19_6 [8, 10, 11, 12, 13, 14]) (.seq spT (.seq (.regionD d19_17 [(0, [8])] [8, 9]) .ret))))))
def collC : ACode := (.seq (.region r19_19 [0, 3, 6, 8, 17, 18]) (.seq (.region r19_20 [0, 6, 8, 17, 18, 19]) (.seq (.regionD d19_21 [] [6, 8, 17, 18, 19, 20]) (.seq (.region r19_22 [8, 17, 18, 19, 20, 21]) (.seq spP (.seq (.regionD d19_33 [(0, [8])] [8, 9]) .ret))))))
def nextC : ACode := (.seq (.region r19_35 [5, 6, 8, 24]) (.seq (.regionD d19_36 [(0, [6, 7])] [8, 9]) .ret))
def tookC : ACode := (.seq (.region r19_38 [0, 6, 8, 25, 26]) (.seq (.regionD d19_39 [(0, [7])] [8, 9]) .ret))
def tellC : ACode := (.seq (.regionD d19_41 [(0, [9, 14]), (4, [2]), (11, [9, 16])] [8, 9]) .ret)
theorem a19_cut : a19.body = (.seq (.region r19_0 [0, 3, 5, 6, 8]) (.seq (.seq (.region r19_1 [0, 3, 5, 6, 8, 28]) (.block 0 (.seq (.region r19_2 [0, 3, 5, 6, 8, 28, 29]) (.cond (.tmp 29) putC (.seq (.region r19_18 [0, 3, 5, 6, 8, 28, 93]) (.cond (.tmp 93) collC (.seq (.region r19_34 [0, 5, 6, 8, 28, 159]) (.cond (.tmp 159) nextC (.seq (.region r19_37 [0, 5, 6, 8, 28, 172]) (.cond (.tmp 172) tookC (.seq (.region r19_40 [0, 5, 8, 188]) (.cond (.tmp 188) tellC .skip)))))))))))) (.seq (.region r19_42 [8, 9]) .ret))) := rfl

/-- What a step leaves. -/
def PlDone (P : Nat → Prop) (g : H) (qv : Value) (q' : Qm) (W : List Nat) (d : Nat) (D : List Nat) (rb : Nat) (cs' : List Value) (g' : H) : Prop :=
  ∃ D' P', hget g' rb = some (.cells cs' 0 true []) ∧ PlS P' g' qv q' W cs' d D' ∧ Kept g g' (rb :: (W ++ D)) ∧ (∀ c ∈ D', c ∈ D ∨ g.size ≤ c) ∧ (∀ c, P' c → P c ∨ g.size ≤ c)

theorem sameCell_int (k : IntKind) (n : Int) : sameCell (.int k n) (.int k n) = true := by simp [sameCell]

theorem PlDone.of {P P' : Nat → Prop} {g g5 : H} {qv : Value} {q' : Qm} {W D D5 cs' : List _} {d rb : Nat} (pl : PlS P' g5 qv q' W cs' d D5) (mv : Moves g g5 (W ++ D) (W ++ D5)) (hP : ∀ c, P' c → P c ∨ g.size ≤ c) (hrb5 : rb < g5.size) (hrbs : rb < g.size) (nrb : ¬ P rb ∧ rb ∉ W ∧ rb ∉ D) : PlDone P g qv q' W d D rb cs' (g5.setIfInBounds rb (.cells cs' 0 true [])) := by
  have k : Kept g5 (g5.setIfInBounds rb (.cells cs' 0 true [])) [rb] := ⟨by simp, fun c hc hn => set_other (fun e => hn (by simp [e]))⟩
  have hD5 : ∀ c ∈ D5, c ∈ D ∨ g.size ≤ c := by
    intro c hc
    rcases mv.2 c (List.mem_append_right _ hc) with r | r
    · rcases List.mem_append.1 r with r | r
      · exact (pl.wd c hc r).elim
      · exact .inl r
    · exact .inr r
  refine ⟨D5, P', by simp [hrb5], pl.kept k ?_, ?_, hD5, hP⟩
  · intro c hc
    simp at hc
    subst hc
    refine ⟨nrb.2.1, fun q => ?_, fun q => ?_⟩
    · rcases hD5 _ q with r | r
      · exact nrb.2.2 r
      · omega
    · rcases hP _ q with r | r
      · exact nrb.1 r
      · omega
  · exact (mv.1.weak (fun c q => List.mem_cons_of_mem _ q)).trans (k.weak (by simp))

set_option maxHeartbeats 2000000 in
theorem putC_spec {F : Nat} (hF : 17592186044440 ≤ F) {P OL : Nat → Prop} {g : H} {qv : Value} {q : Qm} {W : List Nat} {cs : List Value} {d : Nat} {D : List Nat} (s : PlS P g qv q W cs d D) (gq : q.Good) {wb sb rb : Nat} {kd on stamp : Int} {vc vp t29 : Value} {l : List Tgd}
    (hwb : hget g wb = some (.cells cs 0 true [])) (hsb : hget g sb = some (.cells [.int .i64 kd, .int .i64 on, .int .i64 stamp, vc, vp] 0 true [])) (hrb : hget g rb = some (.cells [.int .i64 0, .int .i64 0, .slice none 0 0] 0 true [])) (nsb : ¬ P sb ∧ sb ∉ W ∧ sb ∉ D) (nrb : ¬ P rb ∧ rb ∉ W ∧ rb ∉ D)
    (sl : SlR OL 5 (TgdC OL) g vc l) (hOL : ∀ c ∈ W ++ D, ¬ OL c) (hs1 : l.length ≤ 1048576) (hs2 : ∀ x ∈ l, x.tags.length ≤ 1048576)
    {kn kr : K} {ke : Nat → K} {Q : Value → H → Prop}
    (hk : ∀ g' cs', PlDone P g qv (putM q stamp l).2 W d D rb cs' g' → Ans (kr [(8, .pointer (some ⟨rb, 0, none⟩)), (9, .bool true)] g' []) Q) :
    Ans (evC F (cf F) putC kn ke kr [(0, qv), (3, .pointer (some ⟨d, 0, none⟩)), (5, .pointer (some ⟨wb, 0, none⟩)), (6, .pointer (some ⟨sb, 0, none⟩)), (8, .pointer (some ⟨rb, 0, none⟩)), (28, .int .i64 kd), (29, t29)] g []) Q := by
  have hshort : ShortT l := ⟨by omega, fun t ht => by have := hs2 t ht; omega⟩
  have hwbs := lt_of_get hwb
  have hsbs := lt_of_get hsb
  have hrbs := lt_of_get hrb
  have oc := sl.one
  simp only [oneCell] at oc
  obtain ⟨vq, hcs, hvq⟩ := s.rf
  have oq := hvq.one
  simp only [oneCell] at oq
  have hwb' := hwb
  rw [hcs] at hwb'
  simp (disch := first | omega | (simp only [newRow_size, Array.size_setIfInBounds, Array.size_push]; done) | (simp only [newRow_size, Array.size_setIfInBounds, Array.size_push]; omega)) [putC, r19_3, hwb', hsb, oq]
  rw [← hcs]
  have rf0 : RefC (fun c => P c ∨ g.size ≤ c) g cs q := s.rf.imp (fun _ _ q => .inl q) (fun _ _ _ e => e)
  refine Ans.next (refPut_spec (F := F) (by omega) rf0 gq (fun c hc => .inr hc) sl hshort stamp) ?_
  rintro u g1 ⟨cs1, rfl, rf1, k1⟩
  have y1 := k1.1
  obtain ⟨v1, hcs1, hv1⟩ := rf1
  have ov1 := hv1.one
  simp only [oneCell] at ov1
  subst hcs1
  simp (disch := first | omega | (simp only [newRow_size, Array.size_setIfInBounds, Array.size_push]; done) | (simp only [newRow_size, Array.size_setIfInBounds, Array.size_push]; omega)) [ov1, eqT, eqF, neT, neF, ltT, ltF, leT, leF, nltT, nltF, nleT, nleF, nneT, nneF, List.getElem?_cons_zero, List.getElem?_cons_succ]
  have rf1 : RefC (fun c => P c ∨ g.size ≤ c) g1 [.int .i64 (putM q stamp l).2.room, .int .i64 (putM q stamp l).2.last, v1] (putM q stamp l).2 := ⟨v1, rfl, hv1⟩
  have hvb2 : hget (Ev.newRow g1 [.int .i64 (putM q stamp l).2.room, .int .i64 (putM q stamp l).2.last, v1] 0 []) g1.size = some (.cells [.int .i64 (putM q stamp l).2.room, .int .i64 (putM q stamp l).2.last, v1] 0 true []) := by simp
  have k2 := rowKept g1 [.int .i64 (putM q stamp l).2.room, .int .i64 (putM q stamp l).2.last, v1] 0 []
  have z2 : (Ev.newRow g1 [.int .i64 (putM q stamp l).2.room, .int .i64 (putM q stamp l).2.last, v1] 0 []).size = g1.size + 1 := by simp
  generalize Ev.newRow g1 [.int .i64 (putM q stamp l).2.room, .int .i64 (putM q stamp l).2.last, v1] 0 [] = g2 at hvb2 k2 z2 ⊢
  have k02 : Kept g g2 [] := k1.trans k2
  have y2 := k02.1
  have hsb2 := (k02.get hsbs (by simp)).trans hsb
  simp (disch := first | omega | (simp only [newRow_size, Array.size_setIfInBounds, Array.size_push]; done) | (simp only [newRow_size, Array.size_setIfInBounds, Array.size_push]; omega)) [r19_4, hsb2]
  have dk2 := s.dk.kept k02 (by simp)
  have hDl := s.dk.lt
  have hWl := s.qs.lt
  obtain ⟨tg, pt, tgs, nds, O, O', ed, ar1, ar3, rfl, dis⟩ := dk2
  have hdl : d < g.size := hDl d (by simp)
  have hOLW : ∀ c ∈ W, ¬ OL c := fun c hc => hOL c (by simp [hc])
  have hOLD : ∀ c ∈ d :: (O ++ O'), ¬ OL c := fun c hc => hOL c (List.mem_append_right _ hc)
  have sl2 := SlTgd.imp sl (ok' := OL) (fun _ _ q => q) (keep_of k02.c (by simp))
  refine Ans.next (twin_spec (F := F) (by omega) ar1 ed sl2 (fun c hc => hOLD c (by simp only [List.mem_cons, List.mem_append] at hc ⊢; rcases hc with h | h; exact .inl h; exact .inr (.inl h))) hs1 hs2) ?_
  rintro m g3 ⟨tgs', N, o1, o3, cs3, es, ps, ld, hd3⟩
  have y3 := ld.mv.1.1
  have hsb3 := (ld.mv.1.get (by omega) (fun q => nsb.2.2 (by simp only [List.mem_cons, List.mem_append] at q ⊢; rcases q with h | h; exact .inl h; exact .inr (.inl h)))).trans hsb2
  have m3 : Moves g2 g3 (d :: (O ++ O')) (d :: ((o1 ++ o3 ++ ps.flatten) ++ O')) := ld.mv.right O'
  have hO'l := ar3.lt
  have l3 : ∀ c ∈ d :: ((o1 ++ o3 ++ ps.flatten) ++ O'), c < g3.size := by
    intro c hc
    rw [List.mem_cons, List.mem_append] at hc
    rcases hc with rfl | hc | hc
    · exact ld.dlt
    · exact ld.half.lt c hc
    · have := hO'l c hc; omega
  obtain ⟨q3, hfin⟩ := s.lay k1 rf1 k2 m3 l3
  obtain ⟨B, anB, cB, _, rfl, _, _, _⟩ := ld.half.rowB (by omega)
  have slm := Laid.slT ld rfl
  have hO1W : ∀ c ∈ W, c ∉ o1 ++ o3 ++ ps.flatten := by
    intro c hc hc2
    have := hWl c hc
    rcases ld.mv.2 c (List.mem_cons_of_mem _ hc2) with r | r
    · exact s.wd c (by simp only [List.mem_cons, List.mem_append] at r ⊢; rcases r with h | h; exact .inl h; exact .inr (.inl h)) hc
    · omega
  have hsb3s := lt_of_get hsb3
  have hln := sl.len
  have hlc : l.length ≤ cB := by
    obtain ⟨B', anB', c', e1, e2, e3, e4, e5⟩ := ld.half.rowB (by omega)
    injection e2 with _ _ e2
    omega
  simp (disch := first | omega | (simp only [newRow_size, Array.size_setIfInBounds, Array.size_push]; done) | (simp only [newRow_size, Array.size_setIfInBounds, Array.size_push]; omega)) [d19_5, hsb3, hln, slcV, optInt, hlc]
  refine Ans.nextE (QS.put (F := F) (by omega) q3 gq slm hO1W hshort (fun c hc => .inr hc) stamp) ?_
  rintro u g4 ⟨rfl, q4, k4⟩
  have y4 := k4.1
  have hsb4 := (k4.get hsb3s nsb.2.1).trans hsb3
  simp (disch := first | omega | (simp only [newRow_size, Array.size_setIfInBounds, Array.size_push]; done) | (simp only [newRow_size, Array.size_setIfInBounds, Array.size_push]; omega)) [r19_6, hsb4]
  have ld4 := ld.move k4 hO1W
  have sl4 : SlR (fun c => OL c ∧ c < g.size) 5 (TgdC fun c => OL c ∧ c < g.size) g4 vc l := by
    refine SlTgd.imp sl (fun c hc q => ⟨q, hc⟩) (fun b zs hb hz => ?_)
    have hb' := cel_lt hz
    refine (cel_congr ?_).trans hz
    refine (k4.get (by omega) (fun q => hOLW b q hb)).trans ((ld.mv.1.get (by omega) (fun q => ?_)).trans (k02.get hb' (by simp)))
    exact hOLD b (by simp only [List.mem_cons, List.mem_append] at q ⊢; rcases q with h | h; exact .inl h; exact .inr (.inl h)) hb
  refine Ans.next (whole_spec (F := F) (by omega) ld4 sl4 hs1 hs2) ?_
  rintro u g4' ⟨rfl, rfl⟩
  simp (disch := first | omega | (simp only [newRow_size, Array.size_setIfInBounds, Array.size_push]; done) | (simp only [newRow_size, Array.size_setIfInBounds, Array.size_push]; omega)) []
  refine spT_spec (F := F) (by omega) ld4.sp ld4.last' hs1 hs2 ?_
  intro g5 o1' cs' ps' e sp
  have y5 := sp.mv.1.1
  have hd4 := (k4.get ld.dlt (fun q => s.wd d (by simp) q)).trans hd3
  have hd5 := (sp.mv.1.get (lt_of_get hd4) ld4.hd).trans hd4
  have hO'n : ∀ c ∈ O', c ∉ o1 ++ o3 ++ ps.flatten := by
    intro c hc hc2
    have := hO'l c hc
    rcases ld.mv.2 c (List.mem_cons_of_mem _ hc2) with r | r
    · rcases List.mem_cons.1 r with rfl | r
      · exact ar3.hd hc
      · exact dis c r hc
    · omega
  have dk5 : DeskS g5 d (d :: ((o1' ++ o3 ++ ps'.flatten) ++ O')) := by
    refine ⟨_, _, _, _, o1' ++ o3 ++ ps'.flatten, O', hd5, ⟨⟨_, _, _, _, _, _, _, sp.half, rfl⟩, sp.mv.out (lt_of_get hd4) ld4.hd, lt_of_get hd5⟩, ?_, rfl, ?_⟩
    · refine ((ar3.kept ld.mv.1 ?_).kept k4 ?_).kept sp.mv.1 hO'n
      · intro c hc q
        rcases List.mem_cons.1 q with rfl | q
        · exact ar3.hd hc
        · exact dis c q hc
      · exact fun c hc q => s.wd c (by simp [hc]) q
    · intro c hc hc2
      have := hO'l c hc2
      rcases sp.mv.2 c hc with r | r
      · exact hO'n c hc2 r
      · omega
  obtain ⟨pl, mvW, hPo, hkeep⟩ := hfin _ g5 _ q4 k4 ((sp.mv.right O').cons d) dk5
  have hvb5 := (hkeep g1.size (by omega) (fun q => by have := hWl _ q; omega) (fun q => by have := hDl _ q; omega)).trans hvb2
  have hrb5 := (hkeep rb (by omega) nrb.2.1 nrb.2.2).trans ((k02.get hrbs (by simp)).trans hrb)
  have hvb5s := lt_of_get hvb5
  have hrb5s := lt_of_get hrb5
  have sv1 := hv1.same
  have ne1 : ¬ rb = g1.size := by omega
  simp (disch := first | omega | (simp only [newRow_size, Array.size_setIfInBounds, Array.size_push]; done) | (simp only [newRow_size, Array.size_setIfInBounds, Array.size_push]; omega)) [d19_17, dk_go, chks_nil, chks_cons, chkA_nil, chkA_cons, chk1_no, chk1_yes, chkV_some, hAt_eq, hOf_some, hOf_none, sameV, sameL, hvb5, hrb5, num_eq (F := F) (by omega), ov1, eqT, eqF, neT, neF, ltT, ltF, leT, leF, nltT, nltF, nleT, nleF, nneT, nneF, List.getElem?_cons_zero, List.getElem?_cons_succ, sv1, ne1, sameCell_int]
  exact hk _ _ (PlDone.of pl mvW hPo hrb5s hrbs nrb)

end Go.Proofs.Ytkkagpchcefidaa

/- plays: Collapse. -/
set_option linter.unusedSimpArgs false
set_option linter.unusedVariables false
namespace Go.Ev
theorem Moves.mid {h h' : H} {d : Nat} {O O' : List Nat} (a : Moves h h' (d :: O) (d :: O')) (R : List Nat) : Moves h h' (d :: (R ++ O)) (d :: (R ++ O')) := by
  refine ⟨a.1.weak (fun c q => by simp only [List.mem_cons, List.mem_append] at q ⊢; rcases q with q | q; exact .inl q; exact .inr (.inr q)), fun c hc => ?_⟩
  simp only [List.mem_cons, List.mem_append] at hc ⊢
  rcases hc with hc | hc | hc
  · exact .inl (.inl hc)
  · exact .inl (.inr (.inl hc))
  · rcases a.2 c (List.mem_cons_of_mem _ hc) with q | q
    · rcases List.mem_cons.1 q with q | q
      · exact .inl (.inl q)
      · exact .inl (.inr (.inr q))
    · exact .inr q
end Go.Ev
namespace Go.Proofs.Ytkkagpchcefidaa
open Go.Ev

set_option maxHeartbeats 2000000 in
theorem collC_spec {F : Nat} (hF : 17592186044440 ≤ F) {P OL : Nat → Prop} {g : H} {qv : Value} {q : Qm} {W : List Nat} {cs : List Value} {d : Nat} {D : List Nat} (s : PlS P g qv q W cs d D) (gq : q.Good) {wb sb rb : Nat} {kd on stamp : Int} {vc vp t29 : Value} {l : List Prt}
    (hwb : hget g wb = some (.cells cs 0 true [])) (hsb : hget g sb = some (.cells [.int .i64 kd, .int .i64 on, .int .i64 stamp, vc, vp] 0 true [])) (hrb : hget g rb = some (.cells [.int .i64 0, .int .i64 0, .slice none 0 0] 0 true [])) (nsb : ¬ P sb ∧ sb ∉ W ∧ sb ∉ D) (nrb : ¬ P rb ∧ rb ∉ W ∧ rb ∉ D)
    (sl : SlR OL 5 (PrtC OL) g vp l) (hOL : ∀ c ∈ W ++ D, ¬ OL c) (hs1 : l.length ≤ 1048576) (hs2 : ∀ x ∈ l, x.nodes.length ≤ 1048576)
    {kn kr : K} {ke : Nat → K} {Q : Value → H → Prop}
    (hk : ∀ g' cs', PlDone P g qv (collM q stamp l).2 W d D rb cs' g' → Ans (kr [(8, .pointer (some ⟨rb, 0, none⟩)), (9, .bool true)] g' []) Q) :
    Ans (evC F (cf F) collC kn ke kr [(0, qv), (3, .pointer (some ⟨d, 0, none⟩)), (5, .pointer (some ⟨wb, 0, none⟩)), (6, .pointer (some ⟨sb, 0, none⟩)), (8, .pointer (some ⟨rb, 0, none⟩)), (28, .int .i64 kd), (93, t29)] g []) Q := by
  have hshort : ShortP l := ⟨by omega, fun t ht => by have := hs2 t ht; omega⟩
  have hwbs := lt_of_get hwb
  have hsbs := lt_of_get hsb
  have hrbs := lt_of_get hrb
  have oc := sl.one
  simp only [oneCell] at oc
  obtain ⟨vq, hcs, hvq⟩ := s.rf
  have oq := hvq.one
  simp only [oneCell] at oq
  have hwb' := hwb
  rw [hcs] at hwb'
  simp (disch := first | omega | (simp only [newRow_size, Array.size_setIfInBounds, Array.size_push]; done) | (simp only [newRow_size, Array.size_setIfInBounds, Array.size_push]; omega)) [collC, r19_19, hwb', hsb, oq]
  rw [← hcs]
  have rf0 : RefC (fun c => P c ∨ g.size ≤ c) g cs q := s.rf.imp (fun _ _ q => .inl q) (fun _ _ _ e => e)
  refine Ans.next (refCollapse_spec (F := F) (by omega) rf0 (fun c hc => .inr hc) sl hshort stamp) ?_
  rintro u g1 ⟨cs1, rfl, rf1, k1⟩
  have y1 := k1.1
  obtain ⟨v1, hcs1, hv1⟩ := rf1
  have ov1 := hv1.one
  simp only [oneCell] at ov1
  subst hcs1
  simp (disch := first | omega | (simp only [newRow_size, Array.size_setIfInBounds, Array.size_push]; done) | (simp only [newRow_size, Array.size_setIfInBounds, Array.size_push]; omega)) [ov1, eqT, eqF, neT, neF, ltT, ltF, leT, leF, nltT, nltF, nleT, nleF, nneT, nneF, List.getElem?_cons_zero, List.getElem?_cons_succ]
  have rf1 : RefC (fun c => P c ∨ g.size ≤ c) g1 [.int .i64 (collM q stamp l).2.room, .int .i64 (collM q stamp l).2.last, v1] (collM q stamp l).2 := ⟨v1, rfl, hv1⟩
  have hvb2 : hget (Ev.newRow g1 [.int .i64 (collM q stamp l).2.room, .int .i64 (collM q stamp l).2.last, v1] 0 []) g1.size = some (.cells [.int .i64 (collM q stamp l).2.room, .int .i64 (collM q stamp l).2.last, v1] 0 true []) := by simp
  have k2 := rowKept g1 [.int .i64 (collM q stamp l).2.room, .int .i64 (collM q stamp l).2.last, v1] 0 []
  have z2 : (Ev.newRow g1 [.int .i64 (collM q stamp l).2.room, .int .i64 (collM q stamp l).2.last, v1] 0 []).size = g1.size + 1 := by simp
  generalize Ev.newRow g1 [.int .i64 (collM q stamp l).2.room, .int .i64 (collM q stamp l).2.last, v1] 0 [] = g2 at hvb2 k2 z2 ⊢
  have k02 : Kept g g2 [] := k1.trans k2
  have y2 := k02.1
  have hsb2 := (k02.get hsbs (by simp)).trans hsb
  simp (disch := first | omega | (simp only [newRow_size, Array.size_setIfInBounds, Array.size_push]; done) | (simp only [newRow_size, Array.size_setIfInBounds, Array.size_push]; omega)) [r19_20, hsb2]
  have dk2 := s.dk.kept k02 (by simp)
  have hDl := s.dk.lt
  have hWl := s.qs.lt
  obtain ⟨tg, pt, tgs, nds, O, O', ed, ar1, ar3, rfl, dis⟩ := dk2
  have hdl : d < g.size := hDl d (by simp)
  have hOLW : ∀ c ∈ W, ¬ OL c := fun c hc => hOL c (by simp [hc])
  have hOLD : ∀ c ∈ d :: (O ++ O'), ¬ OL c := fun c hc => hOL c (List.mem_append_right _ hc)
  have sl2 := SlPrt.imp sl (ok' := OL) (fun _ _ q => q) (keep_of k02.c (by simp))
  refine Ans.next (twins_spec (F := F) (by omega) ar3 ed sl2 (fun c hc => hOLD c (by simp only [List.mem_cons, List.mem_append] at hc ⊢; rcases hc with h | h; exact .inl h; exact .inr (.inr h))) hs1 hs2) ?_
  rintro m g3 ⟨nds', N, o1, o3, cs3, es, ps, ld, hd3⟩
  have y3 := ld.mv.1.1
  have hsb3 := (ld.mv.1.get (by omega) (fun q => nsb.2.2 (by simp only [List.mem_cons, List.mem_append] at q ⊢; rcases q with h | h; exact .inl h; exact .inr (.inr h)))).trans hsb2
  have m3 : Moves g2 g3 (d :: (O ++ O')) (d :: (O ++ (o1 ++ o3 ++ ps.flatten))) := ld.mv.mid O
  have hO'l := ar1.lt
  have l3 : ∀ c ∈ d :: (O ++ (o1 ++ o3 ++ ps.flatten)), c < g3.size := by
    intro c hc
    rw [List.mem_cons, List.mem_append] at hc
    rcases hc with rfl | hc | hc
    · exact ld.dlt
    · have := hO'l c hc; omega
    · exact ld.half.lt c hc
  obtain ⟨q3, hfin⟩ := s.lay k1 rf1 k2 m3 l3
  obtain ⟨B, anB, cB, _, rfl, _, _, _⟩ := ld.half.rowB (by omega)
  have slm := Laid.slP ld rfl
  have hO1W : ∀ c ∈ W, c ∉ o1 ++ o3 ++ ps.flatten := by
    intro c hc hc2
    have := hWl c hc
    rcases ld.mv.2 c (List.mem_cons_of_mem _ hc2) with r | r
    · exact s.wd c (by simp only [List.mem_cons, List.mem_append] at r ⊢; rcases r with h | h; exact .inl h; exact .inr (.inr h)) hc
    · omega
  have hsb3s := lt_of_get hsb3
  have hln := sl.len
  have hlc : l.length ≤ cB := by
    obtain ⟨B', anB', c', e1, e2, e3, e4, e5⟩ := ld.half.rowB (by omega)
    injection e2 with _ _ e2
    omega
  simp (disch := first | omega | (simp only [newRow_size, Array.size_setIfInBounds, Array.size_push]; done) | (simp only [newRow_size, Array.size_setIfInBounds, Array.size_push]; omega)) [d19_21, hsb3, hln, slcV, optInt, hlc]
  refine Ans.nextE (QS.coll (F := F) (by omega) q3 gq slm hO1W hshort (fun c hc => .inr hc) stamp) ?_
  rintro u g4 ⟨rfl, q4, k4⟩
  have y4 := k4.1
  have hsb4 := (k4.get hsb3s nsb.2.1).trans hsb3
  simp (disch := first | omega | (simp only [newRow_size, Array.size_setIfInBounds, Array.size_push]; done) | (simp only [newRow_size, Array.size_setIfInBounds, Array.size_push]; omega)) [r19_22, hsb4]
  have ld4 := ld.move k4 hO1W
  have sl4 : SlR (fun c => OL c ∧ c < g.size) 5 (PrtC fun c => OL c ∧ c < g.size) g4 vp l := by
    refine SlPrt.imp sl (fun c hc q => ⟨q, hc⟩) (fun b zs hb hz => ?_)
    have hb' := cel_lt hz
    refine (cel_congr ?_).trans hz
    refine (k4.get (by omega) (fun q => hOLW b q hb)).trans ((ld.mv.1.get (by omega) (fun q => ?_)).trans (k02.get hb' (by simp)))
    exact hOLD b (by simp only [List.mem_cons, List.mem_append] at q ⊢; rcases q with h | h; exact .inl h; exact .inr (.inr h)) hb
  refine Ans.next (wholes_spec (F := F) (by omega) ld4 sl4 hs1 hs2) ?_
  rintro u g4' ⟨rfl, k4'⟩
  simp (disch := first | omega | (simp only [newRow_size, Array.size_setIfInBounds, Array.size_push]; done) | (simp only [newRow_size, Array.size_setIfInBounds, Array.size_push]; omega)) []
  have ld4' := ld4.move k4' (by simp)
  refine spP_spec (F := F) (by omega) ld4'.sp ld4'.last' hs1 hs2 ?_
  intro g5 o1' cs' ps' e sp
  have y4' := k4'.1
  have y5 := sp.mv.1.1
  have k44 : Kept g3 g4' W := k4.trans (k4'.weak (by simp))
  have hd4 := (k44.get ld.dlt (fun q => s.wd d (by simp) q)).trans hd3
  have hd5 := (sp.mv.1.get (lt_of_get hd4) ld4.hd).trans hd4
  have hO'n : ∀ c ∈ O, c ∉ o1 ++ o3 ++ ps.flatten := by
    intro c hc hc2
    have := hO'l c hc
    rcases ld.mv.2 c (List.mem_cons_of_mem _ hc2) with r | r
    · rcases List.mem_cons.1 r with rfl | r
      · exact ar1.hd hc
      · exact dis c hc r
    · omega
  have dk5 : DeskS g5 d (d :: (O ++ (o1' ++ o3 ++ ps'.flatten))) := by
    refine ⟨_, _, _, _, O, o1' ++ o3 ++ ps'.flatten, hd5, ?_, ⟨⟨_, _, _, _, _, _, _, sp.half, rfl⟩, sp.mv.out (lt_of_get hd4) ld4.hd, lt_of_get hd5⟩, rfl, ?_⟩
    · refine ((ar1.kept ld.mv.1 ?_).kept k44 ?_).kept sp.mv.1 hO'n
      · intro c hc q
        rcases List.mem_cons.1 q with rfl | q
        · exact ar1.hd hc
        · exact dis c hc q
      · exact fun c hc q => s.wd c (by simp [hc]) q
    · intro c hc hc2
      have := hO'l c hc
      have := k4'.1
      rcases sp.mv.2 c hc2 with r | r
      · exact hO'n c hc r
      · omega
  obtain ⟨pl, mvW, hPo, hkeep⟩ := hfin _ g5 _ (q4.kept k4' (by simp)) k44 ((sp.mv.left O).cons d) dk5
  have hvb5 := (hkeep g1.size (by omega) (fun q => by have := hWl _ q; omega) (fun q => by have := hDl _ q; omega)).trans hvb2
  have hrb5 := (hkeep rb (by omega) nrb.2.1 nrb.2.2).trans ((k02.get hrbs (by simp)).trans hrb)
  have hvb5s := lt_of_get hvb5
  have hrb5s := lt_of_get hrb5
  have sv1 := hv1.same
  have ne1 : ¬ rb = g1.size := by omega
  simp (disch := first | omega | (simp only [newRow_size, Array.size_setIfInBounds, Array.size_push]; done) | (simp only [newRow_size, Array.size_setIfInBounds, Array.size_push]; omega)) [d19_33, dk_go, chks_nil, chks_cons, chkA_nil, chkA_cons, chk1_no, chk1_yes, chkV_some, hAt_eq, hOf_some, hOf_none, sameV, sameL, hvb5, hrb5, num_eq (F := F) (by omega), ov1, eqT, eqF, neT, neF, ltT, ltF, leT, leF, nltT, nltF, nleT, nleF, nneT, nneF, List.getElem?_cons_zero, List.getElem?_cons_succ, sv1, ne1, sameCell_int]
  exact hk _ _ (PlDone.of pl mvW hPo hrb5s hrbs nrb)

end Go.Proofs.Ytkkagpchcefidaa

/- plays: Next, Took, Len and Last; plays itself. -/
set_option linter.unusedSimpArgs false
set_option linter.unusedVariables false
namespace Go.Proofs.Ytkkagpchcefidaa
open Go.Ev

set_option maxHeartbeats 1000000 in
theorem nextC_spec {F : Nat} (hF : 17592186044440 ≤ F) {P : Nat → Prop} {g : H} {qv : Value} {q : Qm} {W : List Nat} {cs : List Value} {d : Nat} {D : List Nat} (s : PlS P g qv q W cs d D) (gq : q.Good) (shq : ShortI q.items) {wb sb rb : Nat} {kd on stamp : Int} {vc vp t29 : Value}
    (hwb : hget g wb = some (.cells cs 0 true [])) (hsb : hget g sb = some (.cells [.int .i64 kd, .int .i64 on, .int .i64 stamp, vc, vp] 0 true [])) (hrb : hget g rb = some (.cells [.int .i64 0, .int .i64 0, .slice none 0 0] 0 true [])) (nwb : wb ∉ W) (nsb : sb ∉ W) (nrb : ¬ P rb ∧ rb ∉ W ∧ rb ∉ D) (nwr : ¬ rb = wb) (nsr : ¬ rb = sb)
    {kn kr : K} {ke : Nat → K} {Q : Value → H → Prop}
    (hk : ∀ g' cs', PlDone P g qv q W d D rb cs' g' → Ans (kr [(8, .pointer (some ⟨rb, 0, none⟩)), (9, .bool true)] g' []) Q) :
    Ans (evC F (cf F) nextC kn ke kr [(0, qv), (5, .pointer (some ⟨wb, 0, none⟩)), (6, .pointer (some ⟨sb, 0, none⟩)), (8, .pointer (some ⟨rb, 0, none⟩)), (28, .int .i64 kd), (159, t29)] g []) Q := by
  have hwbs := lt_of_get hwb
  have hsbs := lt_of_get hsb
  have hrbs := lt_of_get hrb
  simp (disch := first | omega | (simp only [newRow_size, Array.size_setIfInBounds, Array.size_push]; done) | (simp only [newRow_size, Array.size_setIfInBounds, Array.size_push]; omega)) [nextC, r19_35, hsb]
  refine Ans.next (s.qs.next (F := F) (by omega) gq shq stamp) ?_
  rintro u g1 ⟨su, q1, k1⟩
  have y1 := k1.1
  obtain ⟨vq, hcs, hvq⟩ := s.rf
  have oq := hvq.one
  simp only [oneCell] at oq
  have sq := hvq.same
  have hwb1 := (k1.get hwbs nwb).trans hwb
  have hsb1 := (k1.get hsbs nsb).trans hsb
  have hrb1 := (k1.get hrbs nrb.2.1).trans hrb
  rw [hcs] at hwb1
  have rf1 : RefC P g1 [.int .i64 q.room, .int .i64 q.last, vq] q := RefC.imp ⟨vq, rfl, hvq⟩ (fun _ _ q => q) (keep_of k1.c s.qs.okW)
  simp (disch := first | omega | (simp only [newRow_size, Array.size_setIfInBounds, Array.size_push]; done) | (simp only [newRow_size, Array.size_setIfInBounds, Array.size_push]; omega)) [d19_36, dk_go, chks_nil, chks_cons, chkA_nil, chkA_cons, chk1_no, chk1_yes, chkV_some, hAt_eq, hOf_some, hOf_none, sameV, sameL, hwb1, hsb1, oq, eqT, eqF, neT, neF, ltT, ltF, leT, leF, nltT, nltF, nleT, nleF, nneT, nneF, List.getElem?_cons_zero, List.getElem?_cons_succ, sq, sameCell_int]
  have hlen := gq.len
  have hroom := gq.room
  refine Ans.nextD (refNext_spec (F := F) (by omega) rf1 (by omega) shq stamp) ?_
  rintro u2 g2 ⟨b2, k2⟩
  have y2 := k2.1
  have hwb2 := (k2.get (by omega) (by simp)).trans hwb1
  have hrb2 := (k2.get (by omega) (by simp)).trans hrb1
  have hsb2 := (k2.get (by omega) (by simp)).trans hsb1
  simp (disch := first | omega | (simp only [newRow_size, Array.size_setIfInBounds, Array.size_push]; done) | (simp only [newRow_size, Array.size_setIfInBounds, Array.size_push]; omega)) [dk_go, chks_nil, chks_cons, chkA_nil, chkA_cons, chk1_no, chk1_yes, chkV_some, hAt_eq, hOf_some, hOf_none, sameV, sameL, hwb2, hsb2, oq, eqT, eqF, neT, neF, ltT, ltF, leT, leF, nltT, nltF, nleT, nleF, nneT, nneF, List.getElem?_cons_zero, List.getElem?_cons_succ, sq, sameCell_int]
  have su2 : SlR (since g.size) 5 (ItmC (since g.size)) g2 u (nextM q stamp) := SlItm.imp su (fun _ _ q => q) (keep_of k2.c (by simp))
  have shn : ShortI (nextM q stamp) := ⟨by have := shq.1; unfold nextM; rw [List.length_take]; omega, fun t ht => shq.2 t (List.mem_of_mem_take ht)⟩
  refine Ans.nextD (items_same (F := F) (by omega) su2 b2.sl shn) ?_
  rintro u3 g3 ⟨rfl, k3⟩
  have y3 := k3.1
  have hwb3 := (k3.get (by omega) (by simp)).trans hwb2
  have hrb3 := (k3.get (by omega) (by simp)).trans hrb2
  have hwb3s := lt_of_get hwb3
  have hrb3s := lt_of_get hrb3
  have hwb1s := lt_of_get hwb1
  have hwb2s := lt_of_get hwb2
  have hsb1s := lt_of_get hsb1
  simp (disch := first | omega | (simp only [newRow_size, Array.size_setIfInBounds, Array.size_push]; done) | (simp only [newRow_size, Array.size_setIfInBounds, Array.size_push]; omega)) [dk_go, chks_nil, chks_cons, chkA_nil, chkA_cons, chk1_no, chk1_yes, chkV_some, hAt_eq, hOf_some, hOf_none, sameV, sameL, hwb1, hwb2, hwb3, hrb3, hsb1, hsb2, oq, eqT, eqF, neT, neF, ltT, ltF, leT, leF, nltT, nltF, nleT, nleF, nneT, nneF, List.getElem?_cons_zero, List.getElem?_cons_succ, sq, sameCell_int, nwr]
  have k13 : Kept g g3 W := k1.trans ((k2.trans k3).weak (by simp))
  have pl : PlS P g3 qv q W cs d D := by
    have p1 : PlS P g1 qv q W cs d D := ⟨q1, by rw [hcs]; exact rf1, s.dk.kept k1 s.wd, s.pd, s.wd, fun c hc => by have := s.plt c hc; omega⟩
    exact p1.kept (k2.trans k3) (by simp)
  rw [hcs] at pl
  refine hk _ _ (PlDone.of pl ⟨k13.weak (fun c hc => List.mem_append_left _ hc), fun c hc => .inl hc⟩ (fun c hc => .inl hc) hrb3s hrbs nrb)

set_option maxHeartbeats 1000000 in
theorem tookC_spec {F : Nat} (hF : 17592186044440 ≤ F) {P : Nat → Prop} {g : H} {qv : Value} {q : Qm} {W : List Nat} {cs : List Value} {d : Nat} {D : List Nat} (s : PlS P g qv q W cs d D) (gq : q.Good) {wb sb rb : Nat} {kd on stamp : Int} {vc vp t29 : Value}
    (hwb : hget g wb = some (.cells cs 0 true [])) (hsb : hget g sb = some (.cells [.int .i64 kd, .int .i64 on, .int .i64 stamp, vc, vp] 0 true [])) (hrb : hget g rb = some (.cells [.int .i64 0, .int .i64 0, .slice none 0 0] 0 true [])) (nwb : wb ∉ W) (nsb : sb ∉ W) (nrb : ¬ P rb ∧ rb ∉ W ∧ rb ∉ D) (nwr : ¬ rb = wb) (nsr : ¬ rb = sb)
    {kn kr : K} {ke : Nat → K} {Q : Value → H → Prop}
    (hk : ∀ g' cs', PlDone P g qv (tookM q stamp).2 W d D rb cs' g' → Ans (kr [(8, .pointer (some ⟨rb, 0, none⟩)), (9, .bool true)] g' []) Q) :
    Ans (evC F (cf F) tookC kn ke kr [(0, qv), (5, .pointer (some ⟨wb, 0, none⟩)), (6, .pointer (some ⟨sb, 0, none⟩)), (8, .pointer (some ⟨rb, 0, none⟩)), (28, .int .i64 kd), (172, t29)] g []) Q := by
  have hwbs := lt_of_get hwb
  have hsbs := lt_of_get hsb
  have hrbs := lt_of_get hrb
  have hWl := s.qs.lt
  have hDl := s.dk.lt
  obtain ⟨vq, hcs, hvq⟩ := s.rf
  have oq := hvq.one
  simp only [oneCell] at oq
  have hwb' := hwb
  rw [hcs] at hwb'
  simp (disch := first | omega | (simp only [newRow_size, Array.size_setIfInBounds, Array.size_push]; done) | (simp only [newRow_size, Array.size_setIfInBounds, Array.size_push]; omega)) [tookC, r19_38, hwb', hsb, oq]
  rw [← hcs]
  have rf0 : RefC (fun c => P c ∨ g.size ≤ c) g cs q := s.rf.imp (fun _ _ q => .inl q) (fun _ _ _ e => e)
  refine Ans.next (refTook_spec (F := F) (by omega) rf0 gq (fun c hc => .inr hc) stamp) ?_
  rintro u g1 ⟨cs1, rfl, rf1, k1⟩
  have y1 := k1.1
  obtain ⟨v1, hcs1, hv1⟩ := rf1
  have ov1 := hv1.one
  simp only [oneCell] at ov1
  have sv1 := hv1.same
  subst hcs1
  simp (disch := first | omega | (simp only [newRow_size, Array.size_setIfInBounds, Array.size_push]; done) | (simp only [newRow_size, Array.size_setIfInBounds, Array.size_push]; omega)) [ov1, eqT, eqF, neT, neF, ltT, ltF, leT, leF, nltT, nltF, nleT, nleF, nneT, nneF, List.getElem?_cons_zero, List.getElem?_cons_succ]
  have rf1 : RefC (fun c => (P c ∨ g.size ≤ c) ∧ c < g1.size) g1 [.int .i64 (tookM q stamp).2.room, .int .i64 (tookM q stamp).2.last, v1] (tookM q stamp).2 := RefC.now ⟨v1, rfl, hv1⟩
  have hvb2 : hget (Ev.newRow g1 [.int .i64 (tookM q stamp).2.room, .int .i64 (tookM q stamp).2.last, v1] 0 []) g1.size = some (.cells [.int .i64 (tookM q stamp).2.room, .int .i64 (tookM q stamp).2.last, v1] 0 true []) := by simp
  have k2 := rowKept g1 [.int .i64 (tookM q stamp).2.room, .int .i64 (tookM q stamp).2.last, v1] 0 []
  have z2 : (Ev.newRow g1 [.int .i64 (tookM q stamp).2.room, .int .i64 (tookM q stamp).2.last, v1] 0 []).size = g1.size + 1 := by simp
  generalize Ev.newRow g1 [.int .i64 (tookM q stamp).2.room, .int .i64 (tookM q stamp).2.last, v1] 0 [] = g2 at hvb2 k2 z2 ⊢
  have k02 : Kept g g2 [] := k1.trans k2
  have y2 := k02.1
  have hsb2 := (k02.get hsbs (by simp)).trans hsb
  have hrb2 := (k02.get hrbs (by simp)).trans hrb
  have hvb2s := lt_of_get hvb2
  have hsb2s := lt_of_get hsb2
  simp (disch := first | omega | (simp only [newRow_size, Array.size_setIfInBounds, Array.size_push]; done) | (simp only [newRow_size, Array.size_setIfInBounds, Array.size_push]; omega)) [d19_39, dk_go, chks_nil, chks_cons, chkA_nil, chkA_cons, chk1_no, chk1_yes, chkV_some, hAt_eq, hOf_some, hOf_none, sameV, sameL, hvb2, hsb2, ov1, eqT, eqF, neT, neF, ltT, ltF, leT, leF, nltT, nltF, nleT, nleF, nneT, nneF, List.getElem?_cons_zero, List.getElem?_cons_succ, sv1, sameCell_int]
  have hWA : ∀ c ∈ W, ¬ ((P c ∨ g.size ≤ c) ∧ c < g1.size) := by
    intro c hc q
    have := hWl c hc
    rcases q.1 with q | q
    · exact s.qs.okW c hc q
    · omega
  have q2 : QS (fun c => (P c ∨ g.size ≤ c) ∧ c < g1.size) g2 qv q W := (s.qs.kept k02 (by simp)).imp (fun c hc hp => ⟨.inl hp, by have := s.plt c hp; omega⟩) hWA
  refine Ans.nextD (q2.took (F := F) (by omega) gq stamp) ?_
  rintro u g3 ⟨rfl, q3, k3⟩
  have y3 := k3.1
  have hvb3 := (k3.get hvb2s (fun q => by have := hWl _ q; omega)).trans hvb2
  have hrb3 := (k3.get (by omega) nrb.2.1).trans hrb2
  have hsb3 := (k3.get (by omega) nsb).trans hsb2
  have hrb3s := lt_of_get hrb3
  have hvb3s := lt_of_get hvb3
  have ne1 : ¬ rb = g1.size := by omega
  simp (disch := first | omega | (simp only [newRow_size, Array.size_setIfInBounds, Array.size_push]; done) | (simp only [newRow_size, Array.size_setIfInBounds, Array.size_push]; omega)) [dk_go, chks_nil, chks_cons, chkA_nil, chkA_cons, chk1_no, chk1_yes, chkV_some, hAt_eq, hOf_some, hOf_none, sameV, sameL, hvb2, hvb3, hrb3, hsb3, ov1, eqT, eqF, neT, neF, ltT, ltF, leT, leF, nltT, nltF, nleT, nleF, nneT, nneF, List.getElem?_cons_zero, List.getElem?_cons_succ, sv1, sameCell_int, ne1]
  have pl : PlS (fun c => (P c ∨ g.size ≤ c) ∧ c < g1.size) g3 qv (tookM q stamp).2 W [.int .i64 (tookM q stamp).2.room, .int .i64 (tookM q stamp).2.last, v1] d D := by
    refine ⟨q3, rf1.imp (fun _ _ q => q) (keep_of (L := W) ((k2.weak (by simp)).trans k3).c hWA), (s.dk.kept k02 (by simp)).kept k3 s.wd, ?_, s.wd, fun c hc => by omega⟩
    intro c hc q
    have := hDl c hc
    rcases q.1 with q | q
    · exact s.pd c hc q
    · omega
  exact hk _ _ (PlDone.of pl ⟨((k02.weak (by simp)).trans k3).weak (fun c hc => List.mem_append_left _ hc), fun c hc => .inl hc⟩ (fun c hc => hc.1) hrb3s hrbs nrb)

end Go.Proofs.Ytkkagpchcefidaa

/- One step of a script on the program's queue; the items of a queue are sound. -/
set_option linter.unusedSimpArgs false
set_option linter.unusedVariables false
namespace Go.Proofs.Ytkkagpchcefidaa
open Go.Ev

structure Stp where
  kind : Int
  on : Int
  stamp : Int
  chgs : List Tgd
  prts : List Prt

def StpC (ok : Nat → Prop) (h : H) (cs : List Value) (s : Stp) : Prop := ∃ v w, cs = [.int .i64 s.kind, .int .i64 s.on, .int .i64 s.stamp, v, w] ∧ SlR ok 5 (TgdC ok) h v s.chgs ∧ SlR ok 5 (PrtC ok) h w s.prts
def Stp.Short (s : Stp) : Prop := ShortT s.chgs ∧ ShortP s.prts

theorem StpC.imp {ok ok' : Nat → Prop} {h h' : H} {cs : List Value} {x : Stp} (s : StpC ok h cs x) (h1 : ∀ b, b < h.size → ok b → ok' b) (h3 : ∀ b cs, ok b → cel h b = some cs → cel h' b = some cs) : StpC ok' h' cs x := by
  obtain ⟨v, w, e, s1, s2⟩ := s
  exact ⟨v, w, e, SlTgd.imp s1 h1 h3, SlPrt.imp s2 h1 h3⟩

def stepM (q : Qm) (s : Stp) : Qm := if s.kind = 1 then (putM q s.stamp s.chgs).2 else if s.kind = 2 then (collM q s.stamp s.prts).2 else if s.kind = 4 then (tookM q s.stamp).2 else q

def StepPost (ok : Nat → Prop) (h : H) (b : Nat) (r : Option Nat) (q' : Qm) (u : Value) (h' : H) : Prop :=
  u = .tuple ⟨[]⟩ ∧ ∃ first', QAt ok h' b 0 r first' q' ∧ Kept h h' (b :: r.toList)

theorem step_spec {F : Nat} (hF : 17592186044440 ≤ F) {ok ok2 : Nat → Prop} {h : H} {b : Nat} {r : Option Nat} {first : Nat} {q : Qm} (s : QAt ok h b 0 r first q) (g : q.Good) {cs : List Value} {x : Stp}
    (sx : StpC ok2 h cs x) (hb2 : ¬ ok2 b) (hr2 : ∀ c, r = some c → ¬ ok2 c) (hs : x.Short) (hok : ∀ c, h.size ≤ c → ok c) :
    Ans (cf F 23 [.pointer (some ⟨b, 0, none⟩), .agg ⟨cs⟩] h) (StepPost ok h b r (stepM q x)) := by
  obtain ⟨F, rfl⟩ : ∃ G, F = G + 1 := ⟨F - 1, by omega⟩
  rw [cf_step (a := a23) rfl rfl (by simp [a23])]
  obtain ⟨v, w, rfl, s1, s2⟩ := sx
  have ov := s1.one
  have ow := s2.one
  simp only [oneCell] at ov ow
  have hbs := lt_of_get s.at'
  simp (disch := first | omega | (simp only [newRow_size, Array.size_setIfInBounds, Array.size_push]; done) | (simp only [newRow_size, Array.size_setIfInBounds, Array.size_push]; omega)) [a23, r23_0, r23_1, ov, ow, r23_2, eqT, eqF, neT, neF, ltT, ltF, leT, leF, nltT, nltF, nleT, nleF, nneT, nneF, List.getElem?_cons_zero, List.getElem?_cons_succ]
  have kR := rowKept h [.int .i64 x.kind, .int .i64 x.on, .int .i64 x.stamp, v, w] 0 []
  have sR := s.frame kR
  have t1 := SlTgd.imp s1 (ok' := ok2) (fun _ _ q => q) (keep_of kR.c (by simp))
  have t2 := SlPrt.imp s2 (ok' := ok2) (fun _ _ q => q) (keep_of kR.c (by simp))
  have hokR : ∀ c, (Ev.newRow h [.int .i64 x.kind, .int .i64 x.on, .int .i64 x.stamp, v, w] 0 []).size ≤ c → ok c := fun c hc => hok c (by simp at hc; omega)
  by_cases h1 : x.kind = 1
  · have hm : stepM q x = (putM q x.stamp x.chgs).2 := by unfold stepM; rw [if_pos h1]
    rw [hm]
    simp (disch := first | omega | (simp only [newRow_size, Array.size_setIfInBounds, Array.size_push]; done) | (simp only [newRow_size, Array.size_setIfInBounds, Array.size_push]; omega)) [h1, eqT, eqF, neT, neF, ltT, ltF, leT, leF, nltT, nltF, nleT, nleF, nneT, nneF, List.getElem?_cons_zero, List.getElem?_cons_succ, r23_3]
    rw [h1] at kR sR t1 t2 hokR
    refine Ans.next (Put_spec (F := F) (by omega) sR g t1 hb2 hs.1 hokR x.stamp) ?_
    rintro u h2 ⟨rfl, s3, k3⟩
    simp (disch := first | omega | (simp only [newRow_size, Array.size_setIfInBounds, Array.size_push]; done) | (simp only [newRow_size, Array.size_setIfInBounds, Array.size_push]; omega)) []
    exact Ans.of ⟨rfl, first, s3, kR.of_nil.trans k3⟩
  · by_cases h2 : x.kind = 2
    · have hm : stepM q x = (collM q x.stamp x.prts).2 := by unfold stepM; rw [if_neg h1, if_pos h2]
      rw [hm]
      simp (disch := first | omega | (simp only [newRow_size, Array.size_setIfInBounds, Array.size_push]; done) | (simp only [newRow_size, Array.size_setIfInBounds, Array.size_push]; omega)) [h2, eqT, eqF, neT, neF, ltT, ltF, leT, leF, nltT, nltF, nleT, nleF, nneT, nneF, List.getElem?_cons_zero, List.getElem?_cons_succ, r23_4, r23_5]
      rw [h2] at kR sR t1 t2 hokR
      refine Ans.next (Collapse_spec (F := F) (by omega) sR g t2 hb2 hr2 hs.2 hokR x.stamp) ?_
      rintro u h2 ⟨f2, rfl, s3, k3⟩
      simp (disch := first | omega | (simp only [newRow_size, Array.size_setIfInBounds, Array.size_push]; done) | (simp only [newRow_size, Array.size_setIfInBounds, Array.size_push]; omega)) []
      exact Ans.of ⟨rfl, f2, s3, kR.of_nil.trans k3⟩
    · by_cases h4 : x.kind = 4
      · have hm : stepM q x = (tookM q x.stamp).2 := by unfold stepM; rw [if_neg h1, if_neg h2, if_pos h4]
        rw [hm]
        simp (disch := first | omega | (simp only [newRow_size, Array.size_setIfInBounds, Array.size_push]; done) | (simp only [newRow_size, Array.size_setIfInBounds, Array.size_push]; omega)) [h4, eqT, eqF, neT, neF, ltT, ltF, leT, leF, nltT, nltF, nleT, nleF, nneT, nneF, List.getElem?_cons_zero, List.getElem?_cons_succ, r23_4, r23_6, r23_7]
        rw [h4] at kR sR
        refine Ans.next (Took_spec (F := F) (by omega) sR g x.stamp) ?_
        rintro u h2 ⟨rfl, f2, s3, k3⟩
        simp (disch := first | omega | (simp only [newRow_size, Array.size_setIfInBounds, Array.size_push]; done) | (simp only [newRow_size, Array.size_setIfInBounds, Array.size_push]; omega)) []
        exact Ans.of ⟨rfl, f2, s3, kR.of_nil.trans k3⟩
      · have hm : stepM q x = q := by unfold stepM; rw [if_neg h1, if_neg h2, if_neg h4]
        rw [hm]
        simp (disch := first | omega | (simp only [newRow_size, Array.size_setIfInBounds, Array.size_push]; done) | (simp only [newRow_size, Array.size_setIfInBounds, Array.size_push]; omega)) [h1, h2, h4, eqT, eqF, neT, neF, ltT, ltF, leT, leF, nltT, nltF, nleT, nleF, nneT, nneF, List.getElem?_cons_zero, List.getElem?_cons_succ, r23_4, r23_6]
        exact Ans.of ⟨rfl, first, sR, kR.of_nil⟩

end Go.Proofs.Ytkkagpchcefidaa

/- The items of a queue are sound, and the program finds them so. -/
set_option linter.unusedSimpArgs false
set_option linter.unusedVariables false
namespace Go.Proofs.Ytkkagpchcefidaa
open Go.Ev

def Itm.Shape (x : Itm) : Prop := (x.marker = true → x.prts ≠ [] ∧ x.chgs = []) ∧ (x.marker = false → x.chgs ≠ [] ∧ x.prts = [])

def SoundL (l : List Itm) : Prop := (∀ x ∈ l, x.after < x.stamp ∧ x.Shape) ∧ ∀ i x y, l[i]? = some x → l[i + 1]? = some y → x.stamp ≤ y.after ∧ x.stamp < y.stamp

set_option maxHeartbeats 2000000 in
theorem sound_spec {F : Nat} (hF : 1000 ≤ F) {ok : Nat → Prop} {h : H} {v : Value} {l : List Itm} (s : SlR ok 5 (ItmC ok) h v l) (room last : Int) (h1 : (l.length : Int) ≤ room) (h2 : l.length ≤ 32) (hs : SoundL l) (hlast : ∀ x, l[l.length - 1]? = some x → x.stamp = last) :
    Ans (cf F 26 [v, .int .i64 room, .int .i64 last] h) fun u h' => u = .bool true ∧ Kept h h' [] := by
  generalize hQ : (fun (u : Value) (h' : H) => u = .bool true ∧ Kept h h' []) = Q
  obtain ⟨F, rfl⟩ : ∃ G, F = G + 1 := ⟨F - 1, by omega⟩
  rw [cf_step (a := a26) rfl rfl (by simp [a26])]
  have hl := s.len
  simp (disch := first | omega | (simp only [newRow_size, Array.size_setIfInBounds, Array.size_push]; done) | (simp only [newRow_size, Array.size_setIfInBounds, Array.size_push]; omega)) [a26, r26_0, r26_1, hl, eqT, eqF, neT, neF, ltT, ltF, leT, leF, nltT, nltF, nleT, nleF, nneT, nneF, List.getElem?_cons_zero, List.getElem?_cons_succ, r26_3]
  refine loop_rule (fun m e g => ∃ (i : Nat), m = l.length - i ∧ i ≤ l.length ∧ e = [(0, v), (2, .int .i64 last), (7, .int .i64 i)] ∧ Kept h g []) ?_ _ l.length _ _ (by omega) ⟨0, by omega, by omega, rfl, Kept.refl _ _⟩
  rintro m e g again ⟨i, rfl, hi, rfl, kg⟩ ih
  have sg := SlItm.imp s (ok' := ok) (fun _ _ q => q) (keep_of kg.c (by simp))
  by_cases hlt : i < l.length
  · obtain ⟨x, hx⟩ : ∃ x, l[i]? = some x := ⟨_, List.getElem?_eq_getElem hlt⟩
    obtain ⟨b, o, c, cs, rfl, hlc, hk, hc, hI⟩ := sg.row (by omega)
    obtain ⟨es, lv, an, hg⟩ := cel_inv hc
    have hgs := lt_of_get hg
    obtain ⟨vt, vp, e5, e0, e1, e2, e3, e4, st, sp⟩ := id_at (hI i x hx).2 (hI i x hx).1
    have hw1 : IntKind.i64.wrap ((i : Int) + 1) = ((i + 1 : Nat) : Int) := by rw [wrap_id (by omega) (by omega)]; rfl
    obtain ⟨f1, f2⟩ := hs.1 x (List.mem_of_getElem? hx)
    have hto := st.one
    have hpo := sp.one
    have ht := st.len
    have hp := sp.len
    simp only [oneCell] at hto hpo
    have hle := (hI i x hx).1
    simp (disch := first | omega | (simp only [newRow_size, Array.size_setIfInBounds, Array.size_push]; done) | (simp only [newRow_size, Array.size_setIfInBounds, Array.size_push]; omega)) [l26_11, r26_4, r26_5, hg, e5, hto, hpo, eqT, eqF, neT, neF, ltT, ltF, leT, leF, nltT, nltF, nleT, nleF, nneT, nneF, List.getElem?_cons_zero, List.getElem?_cons_succ]
    have f3 : x.marker = true ∧ x.prts.length ≠ 0 ∧ x.chgs.length = 0 ∨ x.marker = false ∧ x.chgs.length ≠ 0 ∧ x.prts.length = 0 := by
      cases hmk : x.marker with
      | true =>
        obtain ⟨a1, a2⟩ := f2.1 hmk
        exact .inl ⟨rfl, fun e => a1 (List.length_eq_zero_iff.1 e), by rw [a2]; rfl⟩
      | false =>
        obtain ⟨a1, a2⟩ := f2.2 hmk
        exact .inr ⟨rfl, fun e => a1 (List.length_eq_zero_iff.1 e), by rw [a2]; rfl⟩
    have kR := rowKept g [.int .i64 x.stamp, .int .i64 x.after, .bool x.marker, vt, vp] 0 []
    by_cases hz : 0 < i
    · obtain ⟨y, hy⟩ : ∃ y, l[i - 1]? = some y := ⟨_, List.getElem?_eq_getElem (by omega)⟩
      obtain ⟨_, _, _, p0, _⟩ := id_at (hI (i - 1) y hy).2 (hI (i - 1) y hy).1
      have hle2 := (hI (i - 1) y hy).1
      have hw0 : IntKind.i64.wrap ((i : Int) - 1) = ((i - 1 : Nat) : Int) := by rw [wrap_id (by omega) (by omega)]; omega
      obtain ⟨n1, n2⟩ := hs.2 (i - 1) y x hy (by rw [show i - 1 + 1 = i by omega]; exact hx)
      simp (disch := first | omega | (simp only [newRow_size, Array.size_setIfInBounds, Array.size_push]; done) | (simp only [newRow_size, Array.size_setIfInBounds, Array.size_push]; omega)) [d26_6, f1, eqT, eqF, neT, neF, ltT, ltF, leT, leF, nltT, nltF, nleT, nleF, nneT, nneF, List.getElem?_cons_zero, List.getElem?_cons_succ, hw0, hg, p0]
      rcases f3 with ⟨m1, m2, m3⟩ | ⟨m1, m2, m3⟩
      · simp (disch := first | omega | (simp only [newRow_size, Array.size_setIfInBounds, Array.size_push]; done) | (simp only [newRow_size, Array.size_setIfInBounds, Array.size_push]; omega)) [r26_8, m1, m2, m3, ht, hp, eqT, eqF, neT, neF, ltT, ltF, leT, leF, nltT, nltF, nleT, nleF, nneT, nneF, List.getElem?_cons_zero, List.getElem?_cons_succ, r26_10, hw1]
        exact ih (l.length - (i + 1)) _ _ (by omega) ⟨i + 1, rfl, by omega, rfl, kg.trans (by rw [m1] at kR; exact kR)⟩
      · simp (disch := first | omega | (simp only [newRow_size, Array.size_setIfInBounds, Array.size_push]; done) | (simp only [newRow_size, Array.size_setIfInBounds, Array.size_push]; omega)) [r26_8, m1, m2, m3, ht, hp, eqT, eqF, neT, neF, ltT, ltF, leT, leF, nltT, nltF, nleT, nleF, nneT, nneF, List.getElem?_cons_zero, List.getElem?_cons_succ, r26_10, hw1]
        exact ih (l.length - (i + 1)) _ _ (by omega) ⟨i + 1, rfl, by omega, rfl, kg.trans (by rw [m1] at kR; exact kR)⟩
    · simp (disch := first | omega | (simp only [newRow_size, Array.size_setIfInBounds, Array.size_push]; done) | (simp only [newRow_size, Array.size_setIfInBounds, Array.size_push]; omega)) [d26_6, f1, eqT, eqF, neT, neF, ltT, ltF, leT, leF, nltT, nltF, nleT, nleF, nneT, nneF, List.getElem?_cons_zero, List.getElem?_cons_succ]
      rcases f3 with ⟨m1, m2, m3⟩ | ⟨m1, m2, m3⟩
      · simp (disch := first | omega | (simp only [newRow_size, Array.size_setIfInBounds, Array.size_push]; done) | (simp only [newRow_size, Array.size_setIfInBounds, Array.size_push]; omega)) [r26_8, m1, m2, m3, ht, hp, eqT, eqF, neT, neF, ltT, ltF, leT, leF, nltT, nltF, nleT, nleF, nneT, nneF, List.getElem?_cons_zero, List.getElem?_cons_succ, r26_10, hw1]
        exact ih (l.length - (i + 1)) _ _ (by omega) ⟨i + 1, rfl, by omega, rfl, kg.trans (by rw [m1] at kR; exact kR)⟩
      · simp (disch := first | omega | (simp only [newRow_size, Array.size_setIfInBounds, Array.size_push]; done) | (simp only [newRow_size, Array.size_setIfInBounds, Array.size_push]; omega)) [r26_8, m1, m2, m3, ht, hp, eqT, eqF, neT, neF, ltT, ltF, leT, leF, nltT, nltF, nleT, nleF, nneT, nneF, List.getElem?_cons_zero, List.getElem?_cons_succ, r26_10, hw1]
        exact ih (l.length - (i + 1)) _ _ (by omega) ⟨i + 1, rfl, by omega, rfl, kg.trans (by rw [m1] at kR; exact kR)⟩
  · by_cases hz : l.length = 0
    · simp (disch := first | omega | (simp only [newRow_size, Array.size_setIfInBounds, Array.size_push]; done) | (simp only [newRow_size, Array.size_setIfInBounds, Array.size_push]; omega)) [l26_11, r26_4, eqT, eqF, neT, neF, ltT, ltF, leT, leF, nltT, nltF, nleT, nleF, nneT, nneF, List.getElem?_cons_zero, List.getElem?_cons_succ, r26_12, hl, hz]
      subst hQ
      exact Ans.of ⟨rfl, kg⟩
    · obtain ⟨x, hx⟩ : ∃ x, l[l.length - 1]? = some x := ⟨_, List.getElem?_eq_getElem (by omega)⟩
      obtain ⟨b, o, c, cs, rfl, hlc, hk, hc, hI⟩ := sg.row (by omega)
      obtain ⟨es, lv, an, hg⟩ := cel_inv hc
      obtain ⟨_, _, _, p0, _⟩ := id_at (hI _ x hx).2 (hI _ x hx).1
      have hle2 := (hI _ x hx).1
      have hw0 : IntKind.i64.wrap ((l.length : Int) - 1) = ((l.length - 1 : Nat) : Int) := by rw [wrap_id (by omega) (by omega)]; omega
      have hla := hlast x hx
      simp (disch := first | omega | (simp only [newRow_size, Array.size_setIfInBounds, Array.size_push]; done) | (simp only [newRow_size, Array.size_setIfInBounds, Array.size_push]; omega)) [l26_11, r26_4, eqT, eqF, neT, neF, ltT, ltF, leT, leF, nltT, nltF, nleT, nleF, nneT, nneF, List.getElem?_cons_zero, List.getElem?_cons_succ, r26_12, hl, hz, hw0, hg, p0, hla]
      subst hQ
      exact Ans.of ⟨rfl, kg⟩

theorem putM_cases (q : Qm) (stamp : Int) (l : List Tgd) : (putM q stamp l).2 = q ∨ ((putM q stamp l) = (0, ⟨q.room, q.items ++ [⟨stamp, q.last, false, l, []⟩], stamp⟩) ∧ q.last < stamp ∧ l ≠ []) := by
  unfold putM
  split
  · exact .inl rfl
  rename_i h0
  split
  · exact .inl rfl
  rename_i h1
  split
  · exact .inl rfl
  refine .inr ⟨rfl, ?_, fun e => h1 (.inl e)⟩
  unfold fitsM at h0
  split at h0
  · simp at h0
  split at h0
  · simp at h0
  · omega

theorem collM_cases (q : Qm) (stamp : Int) (l : List Prt) : (collM q stamp l).2 = q ∨ ((collM q stamp l) = (0, ⟨q.room, [⟨stamp, afterM q, true, [], l⟩], stamp⟩) ∧ q.last < stamp ∧ l ≠ []) := by
  unfold collM
  split
  · exact .inl rfl
  rename_i h0
  split
  · exact .inl rfl
  rename_i h1
  split
  · exact .inl rfl
  refine .inr ⟨rfl, ?_, h1⟩
  unfold fitsM at h0
  split at h0
  · simp at h0
  split at h0
  · simp at h0
  · omega

/-- What holds of the items of every queue. -/
structure Qm.Sound (q : Qm) : Prop where
  each : ∀ x ∈ q.items, x.after < x.stamp ∧ x.Shape
  pair : q.items.Pairwise fun x y => x.stamp ≤ y.after
  last : ∀ x, q.items.getLast? = some x → x.stamp = q.last

theorem Qm.Sound.new (room b : Int) : (Qm.new room b).Sound := ⟨by simp [Qm.new], by simp [Qm.new], by simp [Qm.new]⟩

theorem Qm.Sound.put {q : Qm} (s : q.Sound) (g : q.Good) (stamp : Int) (l : List Tgd) : (putM q stamp l).2.Sound := by
  rcases putM_cases q stamp l with e | ⟨e, h1, h2⟩
  · rw [e]; exact s
  · rw [e]
    refine ⟨?_, ?_, ?_⟩
    · intro x hx
      rcases List.mem_append.1 hx with hx | hx
      · exact s.each x hx
      · simp at hx; subst hx
        exact ⟨h1, by simp [Itm.Shape, h2]⟩
    · refine List.pairwise_append.2 ⟨s.pair, by simp, fun a ha b hb => ?_⟩
      simp at hb; subst hb
      exact g.bnd a ha
    · intro x hx
      simp at hx
      subst hx; rfl

theorem Qm.Sound.coll {q : Qm} (s : q.Sound) (g : q.Good) (stamp : Int) (l : List Prt) : (collM q stamp l).2.Sound := by
  rcases collM_cases q stamp l with e | ⟨e, h1, h2⟩
  · rw [e]; exact s
  · rw [e]
    have ha : afterM q ≤ q.last := by
      unfold afterM
      split
      · exact Int.le_refl _
      · rename_i x r hq
        have h3 := (s.each x (by rw [hq]; simp)).1
        have h4 := g.bnd x (by rw [hq]; simp)
        omega
    refine ⟨?_, by simp, ?_⟩
    · intro x hx
      simp at hx; subst hx
      exact ⟨by show afterM q < stamp; omega, by simp [Itm.Shape, h2]⟩
    · intro x hx
      simp at hx; subst hx; rfl

theorem Qm.Sound.took {q : Qm} (s : q.Sound) (stamp : Int) : (tookM q stamp).2.Sound := by
  have hs := dropWhile_sub (fun x : Itm => decide (x.stamp ≤ stamp)) q.items
  refine ⟨fun x hx => s.each x (hs.subset hx), s.pair.sublist hs, fun x hx => ?_⟩
  have hsu := List.dropWhile_suffix (fun x : Itm => decide (x.stamp ≤ stamp)) (l := q.items)
  obtain ⟨p, hp⟩ := hsu
  refine s.last x ?_
  rw [← hp]
  have hx' : (List.dropWhile (fun x : Itm => decide (x.stamp ≤ stamp)) q.items).getLast? = some x := hx
  rw [List.getLast?_append, hx']; rfl

theorem Qm.Good.step {q : Qm} (g : q.Good) (x : Stp) : (stepM q x).Good := by
  unfold stepM
  split
  · exact g.put _ _
  split
  · exact g.coll _ _
  split
  · exact g.took _
  · exact g
theorem Qm.Sound.step {q : Qm} (s : q.Sound) (g : q.Good) (x : Stp) : (stepM q x).Sound := by
  unfold stepM
  split
  · exact s.put g _ _
  split
  · exact s.coll g _ _
  split
  · exact s.took _
  · exact s

theorem Qm.Sound.list {q : Qm} (s : q.Sound) (g : q.Good) : SoundL q.items := by
  refine ⟨s.each, fun i x y hx hy => ?_⟩
  obtain ⟨h1, e1⟩ := List.getElem?_eq_some_iff.1 hx
  obtain ⟨h2, e2⟩ := List.getElem?_eq_some_iff.1 hy
  have a := List.pairwise_iff_getElem.1 s.pair i (i + 1) h1 h2 (by omega)
  have b := List.pairwise_iff_getElem.1 g.rise i (i + 1) h1 h2 (by omega)
  rw [e1, e2] at a b
  exact ⟨a, b⟩

theorem stepM_room (q : Qm) (x : Stp) : (stepM q x).room = q.room := by
  unfold stepM
  split
  · rcases putM_cases q x.stamp x.chgs with e | ⟨e, _⟩ <;> rw [e]
  split
  · rcases collM_cases q x.stamp x.prts with e | ⟨e, _⟩ <;> rw [e]
  split
  · rfl
  · rfl
theorem stepM_last (q : Qm) (x : Stp) : q.last ≤ (stepM q x).last := by
  unfold stepM
  split
  · rcases putM_cases q x.stamp x.chgs with e | ⟨e, h, _⟩
    · rw [e]; exact Int.le_refl _
    · rw [e]; exact Int.le_of_lt h
  split
  · rcases collM_cases q x.stamp x.prts with e | ⟨e, h, _⟩
    · rw [e]; exact Int.le_refl _
    · rw [e]; exact Int.le_of_lt h
  split
  · exact Int.le_refl _
  · exact Int.le_refl _

/-- The lists of all items are short. -/
theorem stepM_short {q : Qm} (hs : ShortI q.items) (g : q.Good) (x : Stp) (hx : x.Short) : ShortI (stepM q x).items := by
  have gl := (g.step x).len
  have gr := (g.step x).room
  refine ⟨by omega, fun y hy => ?_⟩
  unfold stepM at hy
  split at hy
  · rcases putM_cases q x.stamp x.chgs with e | ⟨e, h, _⟩
    · rw [e] at hy; exact hs.2 y hy
    · rw [e] at hy
      rcases List.mem_append.1 hy with hy | hy
      · exact hs.2 y hy
      · simp at hy; subst hy
        exact ⟨hx.1, by simp [ShortP]⟩
  split at hy
  · rcases collM_cases q x.stamp x.prts with e | ⟨e, h, _⟩
    · rw [e] at hy; exact hs.2 y hy
    · rw [e] at hy
      simp at hy; subst hy
      exact ⟨by simp [ShortT], hx.2⟩
  split at hy
  · exact hs.2 y ((dropWhile_sub _ q.items).subset hy)
  · exact hs.2 y hy

end Go.Proofs.Ytkkagpchcefidaa

/- QueueSound. -/
set_option linter.unusedSimpArgs false
set_option linter.unusedVariables false
namespace Go.Proofs.Ytkkagpchcefidaa
open Go.Ev

theorem Kept.low {h g g' : H} {L : List Nat} (k : Kept h g []) (k2 : Kept g g' L) (hL : ∀ c ∈ L, h.size ≤ c) : Kept h g' [] :=
  ⟨Nat.le_trans k.1 k2.1, fun c hc _ => (k2.get (Nat.lt_of_lt_of_le hc k.1) (fun q => by have := hL c q; omega)).trans (k.get hc (by simp))⟩

theorem next99 {q : Qm} (g : q.Good) : nextM q 99 = q.items := by
  have := g.len
  have := g.room
  unfold nextM
  exact List.take_of_length_le (by simp; omega)

theorem last_get {l : List Itm} : l[l.length - 1]? = l.getLast? := by
  rw [List.getLast?_eq_getElem?]

theorem queueSound_spec {F : Nat} (hF : 17592186044450 ≤ F) {h : H} (room begin' kk : Int) {v : Value} {script : List Stp} (s : SlR (fun b => b < h.size) 5 (StpC (fun b => b < h.size)) h v script) (hs : ∀ x ∈ script, x.Short) :
    Ans (cf F 10 [.int .i64 room, .int .i64 begin', v, .int .i64 kk] h) fun u h' => u = .bool true := by
  generalize hQ : (fun (u : Value) (h' : H) => u = Value.bool true) = Q
  obtain ⟨F, rfl⟩ : ∃ G, F = G + 1 := ⟨F - 1, by omega⟩
  rw [cf_step (a := a10) rfl rfl (by simp [a10])]
  have hl := s.len
  by_cases hroom : room < 1 ∨ 32 < room
  · simp (disch := first | omega | (simp only [newRow_size, Array.size_setIfInBounds, Array.size_push]; done) | (simp only [newRow_size, Array.size_setIfInBounds, Array.size_push]; omega)) [a10, r10_0, r10_1, New_bad1 (F := F) (by omega) h room begin' hroom, r10_2, num_eq (F := F) (by omega), r10_3, eqT, eqF, neT, neF, ltT, ltF, leT, leF, nltT, nltF, nleT, nleF, nneT, nneF, List.getElem?_cons_zero, List.getElem?_cons_succ]
    refine Ans.next (known_spec (F := F) (by omega) h) ?_
    rintro u h2 ⟨rfl, k2⟩
    simp (disch := first | omega | (simp only [newRow_size, Array.size_setIfInBounds, Array.size_push]; done) | (simp only [newRow_size, Array.size_setIfInBounds, Array.size_push]; omega)) []
    subst hQ
    exact Ans.of rfl
  by_cases hbeg : begin' < 0 ∨ 2147483647 < begin'
  · simp (disch := first | omega | (simp only [newRow_size, Array.size_setIfInBounds, Array.size_push]; done) | (simp only [newRow_size, Array.size_setIfInBounds, Array.size_push]; omega)) [a10, r10_0, r10_1, New_bad2 (F := F) (by omega) h room begin' (by omega) (by omega) hbeg, r10_2, num_eq (F := F) (by omega), r10_3, eqT, eqF, neT, neF, ltT, ltF, leT, leF, nltT, nltF, nleT, nleF, nneT, nneF, List.getElem?_cons_zero, List.getElem?_cons_succ]
    refine Ans.next (known_spec (F := F) (by omega) h) ?_
    rintro u h2 ⟨rfl, k2⟩
    simp (disch := first | omega | (simp only [newRow_size, Array.size_setIfInBounds, Array.size_push]; done) | (simp only [newRow_size, Array.size_setIfInBounds, Array.size_push]; omega)) []
    subst hQ
    exact Ans.of rfl
  simp (disch := first | omega | (simp only [newRow_size, Array.size_setIfInBounds, Array.size_push]; done) | (simp only [newRow_size, Array.size_setIfInBounds, Array.size_push]; omega)) [a10, r10_0, r10_1]
  refine Ans.next (New_spec (F := F) (by omega) h room begin' (by omega) (by omega) (by omega) (by omega)) ?_
  rintro v1 h1 ⟨b, r, rfl, s1, zb, zr, hb, hr, hbr, k1⟩
  have sQ := s1 (since h1.size) (by simp; omega) (by simp; omega)
  have y1 := k1.1
  simp (disch := first | omega | (simp only [newRow_size, Array.size_setIfInBounds, Array.size_push]; done) | (simp only [newRow_size, Array.size_setIfInBounds, Array.size_push]; omega)) [r10_2, num_eq (F := F) (by omega), eqT, eqF, neT, neF, ltT, ltF, leT, leF, nltT, nltF, nleT, nleF, nneT, nneF, List.getElem?_cons_zero, List.getElem?_cons_succ, r10_4, r10_5]
  refine loop_rule (fun m e g => ∃ (i first : Nat) (q : Qm), m = 150 - i ∧ i ≤ 150 ∧ e = [(0, .int .i64 room), (2, v), (3, .int .i64 kk), (9, .pointer (some ⟨b, 0, none⟩)), (11, .int .i64 q.last), (12, .int .i64 i)] ∧ QAt (since h1.size) g b 0 (some r) first q ∧ q.Good ∧ q.Sound ∧ (q.room : Int) = room ∧ ShortI q.items ∧ Kept h g [] ∧ h1.size ≤ g.size) ?_ _ 150 _ _ (by omega) ⟨0, 0, Qm.new room begin', by omega, by omega, rfl, sQ, Qm.Good.new (by omega) (by omega) (by omega) (by omega), Qm.Sound.new _ _, by simp [Qm.new]; omega, by simp [Qm.new, ShortI], k1, Nat.le_refl _⟩
  rintro m e g again ⟨i, first, q, rfl, hi, rfl, sq, gq, soq, hrq, shq, kg, yg⟩ ih
  have hw1 : IntKind.i64.wrap ((i : Int) + 1) = ((i + 1 : Nat) : Int) := by rw [wrap_id (by omega) (by omega)]; rfl
  by_cases hlt : i < script.length ∧ i < 150
  · obtain ⟨x, hx⟩ : ∃ x, script[i]? = some x := ⟨_, List.getElem?_eq_getElem hlt.1⟩
    have sg := SlR.imp s (ok' := fun b => b < h.size) (R' := StpC (fun b => b < h.size)) (h' := g) (fun _ _ q => q) (fun cs x _ q => StpC.imp q (fun _ _ q => q) (keep_of kg.c (by simp))) (keep_of kg.c (by simp))
    obtain ⟨b', o, c, cs, es, lv, an, rfl, hk, hg, hle, hx5⟩ := sg.at' hx
    have hcl : ((cs.drop (o + i * 5)).take 5).length = 5 := by simp; omega
    simp (disch := first | omega | (simp only [newRow_size, Array.size_setIfInBounds, Array.size_push]; done) | (simp only [newRow_size, Array.size_setIfInBounds, Array.size_push]; omega)) [l10_15, r10_6, r10_7, hg, hl, eqT, eqF, neT, neF, ltT, ltF, leT, leF, nltT, nltF, nleT, nleF, nneT, nneF, List.getElem?_cons_zero, List.getElem?_cons_succ]
    have hxs := hs x (List.mem_of_getElem? hx)
    refine Ans.next (step_spec (F := F) (by omega) sq gq hx5 (by simp; omega) (by rintro c e; cases e; simp; omega) hxs (fun c hc => by show h1.size ≤ c; omega)) ?_
    rintro u h2 ⟨rfl, f2, s2, k2⟩
    have g2 := gq.step x
    have so2 := soq.step gq x
    have hr2 := stepM_room q x
    have hl2 := stepM_last q x
    have sh2 := stepM_short shq gq x hxs
    have ks2 := Kept.low kg k2 (by simp; omega)
    have y2 := k2.1
    generalize stepM q x = q2 at s2 g2 so2 hr2 hl2 sh2
    simp (disch := first | omega | (simp only [newRow_size, Array.size_setIfInBounds, Array.size_push]; done) | (simp only [newRow_size, Array.size_setIfInBounds, Array.size_push]; omega)) [r10_8]
    refine Ans.next (Next_spec (F := F) (by omega) s2 g2 sh2 99) ?_
    rintro vl h3 ⟨b3, s3, k3⟩
    rw [next99 g2] at b3
    have y3 := k3.1
    have ks3 := Kept.low ks2 k3 (by simp; omega)
    simp (disch := first | omega | (simp only [newRow_size, Array.size_setIfInBounds, Array.size_push]; done) | (simp only [newRow_size, Array.size_setIfInBounds, Array.size_push]; omega)) [r10_9]
    refine Ans.next (Next_spec (F := F) (by omega) s3 g2 sh2 kk) ?_
    rintro vm h4 ⟨b4, s4, k4⟩
    have y4 := k4.1
    have ks4 := Kept.low ks3 k4 (by simp; omega)
    have l3 := b3.sl.len
    have hN : (nextM q2 kk).length = min kk.toNat q2.items.length := by simp [nextM]
    have hm2 : (if (q2.items.length : Int) < (if kk < 0 then (0 : Int) else kk) then (q2.items.length : Int) else if kk < 0 then (0 : Int) else kk) = ((nextM q2 kk).length : Int) := by
      split <;> split at * <;> omega
    have nb : ∀ c ∈ [b], ¬ since h2.size c := by simp; omega
    have sl4 := SlItm.imp b3.sl (ok' := since h2.size) (fun _ _ q => q) (keep_of k4.c nb)
    obtain ⟨vs, es1, ss1⟩ := b3.take (n := (nextM q2 kk).length) (by omega)
    have htk : q2.items.take (nextM q2 kk).length = nextM q2 kk := by
      rw [hN, nextM]
      rcases Nat.le_total kk.toNat q2.items.length with e | e
      · rw [Nat.min_eq_left e]
      · rw [Nat.min_eq_right e, List.take_of_length_le (Nat.le_refl _), List.take_of_length_le e]
    rw [htk] at ss1
    have ss4 := SlItm.imp ss1 (ok' := since h2.size) (fun _ _ q => q) (keep_of k4.c nb)
    have gl2 := g2.len
    have gr2 := g2.room
    simp (disch := first | omega | (simp only [newRow_size, Array.size_setIfInBounds, Array.size_push]; done) | (simp only [newRow_size, Array.size_setIfInBounds, Array.size_push]; omega)) [r10_10, l3, hm2, eqT, eqF, neT, neF, ltT, ltF, leT, leF, nltT, nltF, nleT, nleF, nneT, nneF, List.getElem?_cons_zero, List.getElem?_cons_succ, r10_11, Last_eq (F := F) (by omega) s4, Len_eq (F := F) (by omega) s4]
    refine Ans.next (sound_spec (F := F) (by omega) sl4 room q2.last (by omega) (by omega) (so2.list g2) (fun y hy => so2.last y (by rw [last_get] at hy; exact hy))) ?_
    rintro u h5 ⟨rfl, k5⟩
    have y5 := k5.1
    simp (disch := first | omega | (simp only [newRow_size, Array.size_setIfInBounds, Array.size_push]; done) | (simp only [newRow_size, Array.size_setIfInBounds, Array.size_push]; omega)) [es1]
    have shN : ShortI (nextM q2 kk) := ⟨by omega, fun t ht => sh2.2 t (List.mem_of_mem_take ht)⟩
    refine Ans.next (items_same (F := F) (by omega) (SlItm.imp b4.sl (ok' := since h3.size) (fun _ _ q => q) (keep_of k5.c (by simp))) (SlItm.imp ss4 (ok' := since h2.size) (fun _ _ q => q) (keep_of k5.c (by simp))) shN) ?_
    rintro u h6 ⟨rfl, k6⟩
    have y6 := k6.1
    have s6 := (s4.frame k5).frame k6
    simp (disch := first | omega | (simp only [newRow_size, Array.size_setIfInBounds, Array.size_push]; done) | (simp only [newRow_size, Array.size_setIfInBounds, Array.size_push]; omega)) [r10_13, Last_eq (F := F) (by omega) s6, r10_14, hw1]
    exact ih (150 - (i + 1)) _ _ (by omega) ⟨i + 1, f2, q2, rfl, by omega, rfl, s6, g2, so2, by rw [hr2]; exact hrq, sh2, (ks4.trans k5).trans k6, by omega⟩
  · have hf : ∀ (Q' : Value → H → Prop), True := fun _ => trivial
    by_cases h1' : i < script.length
    · simp (disch := first | omega | (simp only [newRow_size, Array.size_setIfInBounds, Array.size_push]; done) | (simp only [newRow_size, Array.size_setIfInBounds, Array.size_push]; omega)) [l10_15, r10_6, hl, eqT, eqF, neT, neF, ltT, ltF, leT, leF, nltT, nltF, nleT, nleF, nneT, nneF, List.getElem?_cons_zero, List.getElem?_cons_succ, r10_16]
      refine Ans.next (known_spec (F := F) (by omega) g) ?_
      rintro u h2 ⟨rfl, k2⟩
      simp (disch := first | omega | (simp only [newRow_size, Array.size_setIfInBounds, Array.size_push]; done) | (simp only [newRow_size, Array.size_setIfInBounds, Array.size_push]; omega)) []
      subst hQ
      exact Ans.of rfl
    · simp (disch := first | omega | (simp only [newRow_size, Array.size_setIfInBounds, Array.size_push]; done) | (simp only [newRow_size, Array.size_setIfInBounds, Array.size_push]; omega)) [l10_15, r10_6, hl, eqT, eqF, neT, neF, ltT, ltF, leT, leF, nltT, nltF, nleT, nleF, nneT, nneF, List.getElem?_cons_zero, List.getElem?_cons_succ, r10_16]
      refine Ans.next (known_spec (F := F) (by omega) g) ?_
      rintro u h2 ⟨rfl, k2⟩
      simp (disch := first | omega | (simp only [newRow_size, Array.size_setIfInBounds, Array.size_push]; done) | (simp only [newRow_size, Array.size_setIfInBounds, Array.size_push]; omega)) []
      subst hQ
      exact Ans.of rfl

end Go.Proofs.Ytkkagpchcefidaa
