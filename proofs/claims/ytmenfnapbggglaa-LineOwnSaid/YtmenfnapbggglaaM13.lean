/- Several texts in one: Nk1. -/
import Derived.Test.YtmenfnapbggglaaRows
import Derived.Test.YtmenfnapbggglaaChecked
import Derived.OwnWalk
import Derived.Stop.Texts
import Derived.Deep.RegionWith
import Derived.Deep.Cut
import Derived.Maps.AppendAt
import Derived.Sort.OwnSortedInts
import Derived.Test.YtmenfnapbggglaaM12

/- Numbers: the walk through its loop over the map, up to the library's sort. -/
set_option linter.unusedSimpArgs false
set_option linter.unusedVariables false
namespace Go.Proofs.Ytmenfnapbggglaa
open Go.ChangeShapes Go.WideShapes Go.ChangeAt Go.RowKit Go.Kit Go.Deep Go.Maps Go.WideElems Go.Sort

theorem Try.info3' : (Try.prog.info? 3).map (fun i => (i.zero, i.size, i.bytes)) = some (some (.int .i64 0), 1, 8) := by kernel_rfl

/-- What sorts the numbers: the library's own. -/
structure Sorts : Prop where
  some' : ∀ (blk off cap : Nat) (zs : List Int) (w : World), Holds (Value.int .i64) w blk off zs.toArray → blk < w.heap.size → zs.length < 4611686018427387904 →
    Calls Try.prog 41 #[.slice (some ⟨blk, off, none⟩) zs.length cap] w fun e w' => e = .returned (.tuple #[]) ∧ ∃ n os, w' = grow (putRow (Value.int .i64) (Sort.ahead w n) blk off (zs.mergeSort fun x y => decide (x ≤ y)).toArray) os
  none' : ∀ (p : Option Addr) (cap : Nat) (w : World), Calls Try.prog 41 #[.slice p 0 cap] w fun e w' => e = .returned (.tuple #[]) ∧ w' = w

abbrev anyR : Value → Option (DataW Unit × List MemPlace) := fun _ => some (.nil, [])

/-- The keys met so far. -/
def Coll (D0 : DataW Unit) (left : Lit → Bool) (ks : List Int) : Prop := ks.Nodup ∧ ∀ x, x ∈ ks ↔ (has D0 (.int .i64 x) = true ∧ left (.int .i64 x) = false)

theorem Coll.start (D0 : DataW Unit) : Coll D0 (has D0) [] := ⟨List.nodup_nil, fun x => by cases has D0 (.int .i64 x) <;> simp⟩

theorem Coll.step {D0 : DataW Unit} {left : Lit → Bool} {ks : List Int} (h : Coll D0 left ks) {x : Int} (hlk : left (.int .i64 x) = true) (hhas : has D0 (.int .i64 x) = true) : Coll D0 (fun z => left z && !z.sameKey (.int .i64 x)) (ks ++ [x]) := by
  have hnew : x ∉ ks := fun hx => by have := ((h.2 x).1 hx).2; rw [hlk] at this; cases this
  refine ⟨List.nodup_append.2 ⟨h.1, by simp, fun a ha b hb => by simp at hb; subst hb; exact fun e => hnew (e ▸ ha)⟩, fun y => ?_⟩
  by_cases hy : y = x
  · subst hy; simp [hhas, Lit.sameKey]
  · simp [h.2 y, hy, Lit.sameKey]

theorem sort_perm {l l' : List Int} (h : l.Perm l') : (l.mergeSort fun x y => decide (x ≤ y)) = (l'.mergeSort fun x y => decide (x ≤ y)) := by
  have tr : ∀ a b c : Int, decide (a ≤ b) = true → decide (b ≤ c) = true → decide (a ≤ c) = true := fun a b c h1 h2 => by simp only [decide_eq_true_eq] at *; omega
  have to : ∀ a b : Int, (decide (a ≤ b) || decide (b ≤ a)) = true := fun a b => by simp only [Bool.or_eq_true, decide_eq_true_eq]; omega
  refine List.Perm.eq_of_pairwise (le := fun a b => decide (a ≤ b) = true) (fun a b _ _ h1 h2 => ?_) (List.pairwise_mergeSort tr to l) (List.pairwise_mergeSort tr to l') (((List.mergeSort_perm l _).trans h).trans (List.mergeSort_perm l' _).symm)
  simp only [decide_eq_true_eq] at h1 h2
  omega

theorem fit_of {es : Array MapEntry} {clock : Nat} {K0 : List Int} (hk : es.toList.map (·.key) = K0.map (Value.int .i64)) (hn : K0.Nodup) (hr : ∀ n ∈ K0, 0 ≤ n ∧ n ≤ 1000000000) (hlen : K0.length ≤ 1000000) (h1 : ∀ x ∈ es.toList, x.born < clock) (h2 : (es.toList.map (·.born)).Nodup) : Fit Try.prog 3 anyR es clock := by
  have hsz : es.size = K0.length := by have := congrArg List.length hk; simpa using this
  refine ⟨by unfold maxLen; omega, ⟨h1, h2, ?_⟩, ?_⟩
  · rw [hk]
    unfold List.Nodup
    rw [List.pairwise_map]
    exact hn.imp fun hne e => hne (by injection e)
  · intro x hx
    have : x.key ∈ K0.map (Value.int .i64) := by rw [← hk]; exact List.mem_map.2 ⟨x, hx, rfl⟩
    obtain ⟨n, hn', e⟩ := List.mem_map.1 this
    have hrn := hr n hn'
    refine ⟨(.int .i64 n, .nil), ?_⟩
    have hwf : (Lit.int .i64 n).wf = true := by
      simp only [Lit.wf, IntKind.min, IntKind.max, IntKind.signed, IntKind.bits, Bool.and_eq_true, decide_eq_true_eq]
      constructor
      · have : (-(2 ^ (64 - 1)) : Int) = -9223372036854775808 := rfl
        simp
        omega
      · have : (2 ^ (64 - 1) - 1 : Int) = 9223372036854775807 := rfl
        simp
        omega
    rw [rd, ← e, keyOf_int_mk Try.underlying3 hwf]
    rfl

set_option maxRecDepth 100000 in
/-- Which keys the map has. -/
theorem has_iff {es : Array MapEntry} {clock : Nat} (F : Fit Try.prog 3 anyR es clock) {K0 : List Int} (hk : es.toList.map (·.key) = K0.map (Value.int .i64)) (x : Int) : has (DataW.map ((es.toList.map (rg Try.prog 3 anyR)).foldr DataW.insert [])) (.int .i64 x) = true ↔ x ∈ K0 := by
  rw [has_eq, List.any_eq_true]
  constructor
  · rintro ⟨p, hp, hs⟩
    obtain ⟨e, he, rfl⟩ := List.mem_map.1 (mem_sorted.1 hp)
    obtain ⟨y, hy⟩ := F.reads e he
    rw [rg_of hy] at hs
    have h1 := rd_key hy
    obtain ⟨z, hz1, hz2, _⟩ := keyOf_int_inv Try.underlying3 h1
    rw [hz2] at hs
    have hzx : z = x := by simpa [Lit.sameKey] using hs
    have : e.key ∈ K0.map (Value.int .i64) := by rw [← hk]; exact List.mem_map.2 ⟨e, he, rfl⟩
    rw [hz1] at this
    obtain ⟨n, hn, e2⟩ := List.mem_map.1 this
    injection e2 with _ e2
    rw [← hzx, ← e2]
    exact hn
  · intro hx
    have : (Value.int .i64 x) ∈ es.toList.map (·.key) := by rw [hk]; exact List.mem_map.2 ⟨x, hx, rfl⟩
    obtain ⟨e, he, e2⟩ := List.mem_map.1 this
    obtain ⟨y, hy⟩ := F.reads e he
    refine ⟨rg Try.prog 3 anyR e, mem_sorted.2 (List.mem_map.2 ⟨e, he, rfl⟩), ?_⟩
    rw [rg_of hy]
    have h1 := rd_key hy
    obtain ⟨z, hz1, hz2, _⟩ := keyOf_int_inv Try.underlying3 h1
    rw [e2] at hz1
    injection hz1 with _ hz1
    rw [hz2, ← hz1]
    simp [Lit.sameKey]

def NumPost (W : World) (K0 : List Int) : Ending → World → Prop := fun e w' =>
  ∃ v, e = .returned v ∧ w'.ownsRow W.heap.size 3 1 v K0.length ((K0.mergeSort fun x y => decide (x ≤ y)).map (Value.int .i64)) ∧ (K0 = [] → v = .slice none 0 0) ∧ W.grownBy w' none

theorem iter_row {w : World} {b r n : Nat} {D : DataW Unit} {left : Lit → Bool} {cnt : Nat} {base : Nat} {v : Value} {m : Nat} {xs : List Value} (h : w.ranges Try.prog 3 anyR b r n D left cnt) (o : w.ownsRow base 3 1 v m xs) : ∀ g, v.ownBlock = some g → g ≠ r := by
  intro g hg e
  subst e
  obtain ⟨_, _, _, _, _, _, _, _, _, hit, _⟩ := h
  rcases o.2 with ⟨rfl, _⟩ | ⟨g', cap, cur, rfl, _, hb, _⟩
  · cases hg
  · cases hg
    rw [hit] at hb
    cases hb

set_option maxRecDepth 1000000 in
set_option maxHeartbeats 3200000 in
theorem numbers_walk (S : Sorts) {W : World} {a : Addr} (bm : Nat) {es : Array MapEntry} {clock : Nat} {K0 : List Int} (hl : W.cell? a = some (.map (some bm))) (hb : W.heap[bm]? = some (.map es clock))
    (hk : es.toList.map (·.key) = K0.map (Value.int .i64)) (hn : K0.Nodup) (hr : ∀ n ∈ K0, 0 ≤ n ∧ n ≤ 1000000000) (hlen : K0.length ≤ 1000000) (h1 : ∀ x ∈ es.toList, x.born < clock) (h2 : (es.toList.map (·.born)).Nodup) :
    Calls Try.prog 26 #[.pointer (some a)] W (NumPost W K0) := by
  have F := fit_of hk hn hr hlen h1 h2
  have hsz : es.size = K0.length := by have := congrArg List.length hk; simpa using this
  obtain ⟨D0, hD0⟩ : ∃ D0, D0 = DataW.map ((es.toList.map (rg Try.prog 3 anyR)).foldr DataW.insert []) := ⟨_, rfl⟩
  have hown : W.ownsMap Try.prog 3 anyR bm K0.length D0 := ⟨es, clock, hb, F, by omega, hD0⟩
  have hhas : ∀ x, has D0 (.int .i64 x) = true ↔ x ∈ K0 := by rw [hD0]; exact has_iff F hk
  have hsize : Maps.size D0 = K0.length := by rw [hD0]; simp [Maps.size, length_sorted, hsz]
  obtain ⟨i0, hi, hz0, hz1, hz2⟩ := info_parts Try.info3'
  have HH : Hid (∀ x, has D0 (.int .i64 x) = true ↔ x ∈ K0) := hhas
  have HN : Hid K0.Nodup := hn
  have HS : Hid (Maps.size D0 = K0.length) := hsize
  have HL : Hid (K0.length ≤ 1000000) := hlen
  have HB : Hid (bm < W.heap.size) := hown.lt
  clear hb hD0 F hk hhas hn hsize hlen hr h1 h2 hsz
  go_enter Try.func26, Try.ntmps26
  go_wp2_with (first
    | (at_range; refine wpList_range_own _ rfl _ 43 rfl 3 _ (int_keyed Try.underlying3) Try.underlying43 _ bm K0.length D0 rfl hown ?_; intro w0 hrg0 hg0 hs0)
    | go_in)
  go_frame
  go_loopw [3] (fun v wr => ∃ (left : Lit → Bool) (cnt : Nat) (ks : List Int), wr.ranges Try.prog 3 anyR bm W.heap.size K0.length D0 left cnt ∧
      wr.ownsRow W.heap.size 3 1 v ks.length (ks.map (Value.int .i64)) ∧ Hid (Coll D0 left ks) ∧ Hid (ks.length + cnt ≤ K0.length) ∧ Hid (ks = [] → v = .slice none 0 0) ∧ W.grownBy wr none)
    (fun _ wr => wr.rangeLeft bm W.heap.size)
  case atStart =>
    exact ⟨_, _, [], hrg0, World.ownsRow_nil _ _ _ _, Coll.start _, (by show _ ≤ _; rw [HS.out]; simp), (fun _ => rfl), hg0⟩
  case round =>
    obtain ⟨left, cnt, ks, hrg, hrow, hC, hlen2, HE, hg⟩ := hrel
    go_wp2_with (first
      | (at_next; refine wpList_next_ranges _ rfl _ rfl 3 (int_keyed Try.underlying3) anyR (Value.int .i64) id (fun key kl h => by obtain ⟨x, hx, _⟩ := keyOf_int_inv Try.underlying3 h; exact ⟨x, hx⟩) (fun v y _ => ⟨v, rfl⟩) bm W.heap.size K0.length _ _ _ rfl hrg ?_ ?_)
      | go_in)
    · intro hc0 hl0
      have HPm : Hid (ks.Perm K0) := (List.perm_ext_iff_of_nodup hC.out.1 HN.out).2 fun x => by rw [hC.out.2 x, hl0, ← HH.out x]; simp
      clear hl0 hC hlen2
      rcases hrow.2 with ⟨hnil, hk0⟩ | ⟨g, cap, cur, hv, hbase, hbg, e1, e2, e3, e4⟩
      · subst hnil
        obtain rfl : ks = [] := List.eq_nil_of_length_eq_zero hk0
        clear hrg
        go_wp2_with (go_at_call 41; refine (S.none' none 0 _).mono ?_; rintro e w' ⟨rfl, rfl⟩)
        go_ret
        refine ⟨_, rfl, ?_, fun _ => rfl, hg⟩
        rw [← sort_perm HPm.out, ← HPm.out.length_eq]
        simpa using hrow
      · subst hv
        have hH : Holds (Value.int .i64) wr g 0 ks.toArray := holds_of_blockI hbg (by simpa using e4)
        have hgl : g < wr.heap.size := (Array.getElem?_eq_some_iff.1 hbg).1
        have hsort := S.some' g 0 cap ks wr hH hgl (by have := HPm.out.length_eq; have := HL.out; omega)
        clear hrg hH
        go_wp2_with (go_at_call 41; refine hsort.mono ?_; rintro e w' ⟨rfl, nn, os, rfl⟩)
        go_ret
        have hl2 : (ks.mergeSort fun x y => decide (x ≤ y)).length = ks.length := List.length_mergeSort ks
        have hgs := grownBy_sortedI (w := wr) (g := g) (n := nn) (os := os) (ks.mergeSort fun x y => decide (x ≤ y)).toArray
        have hro := ownsRow_sortedI (n := nn) (os := os) (ts := ks.mergeSort fun x y => decide (x ≤ y)) hl2 hbase hbg e1 e2 e3
        refine ⟨_, rfl, ?_, fun e0 => HE.out (by have := HPm.out; rw [e0] at this; exact this.eq_nil), hg.andThen hgs (fun j hj => by cases hj; exact .inl hbase)⟩
        rw [← sort_perm HPm.out, ← HPm.out.length_eq]
        exact hro
    · intro x c kl y1 y2 w1 cnt1 hkx hlx hRy1 hRy2 hat hrg1 hlt hg1 hs1 hen
      obtain ⟨z, hz, hz', _⟩ := keyOf_int_inv Try.underlying3 hkx
      injection hz with _ hz
      subst hz
      subst hz'
      have hm0 : wr.rangeLeft bm W.heap.size = cnt := hrg.left_eq
      have hhx : has D0 (.int .i64 x) = true := has_true_of_atKey hat
      have hbW := HB.out
      have hrow1 := hrow.kept hg1 (by
        cases hob : u3.ownBlock with
        | none => exact Or.inl rfl
        | some g => exact Or.inr (fun e => iter_row hrg hrow g hob (by cases e; rfl)))
      have hgW1 : W.grownBy w1 none := hg.andThen hg1 (fun j hj => by cases hj; exact .inl (Nat.le_refl _))
      have HS1 : Hid (wr.heap.size = w1.heap.size) := hs1.symm
      clear hrow hrg hs1
      go_wp2_with (first
        | (at_builtin; refine wpList_append_own_at _ rfl _ _ 28 rfl W.heap.size 3 i0 (.int .i64 0) 1 8 Try.underlying28 hi hz0 hz1 hz2 rfl (by decide) _ _ _ rfl (hrow1.alloc _) ⟨w1.heap.size, 0, none⟩ 1 1 [.int .i64 x] rfl rfl ?c1 ?c2 ?c3 ?c4 ?c5 ?_)
        | go_in)
      case c2 => first | rfl | (intro u hu; simp at hu; subst hu; rfl)
      case c3 => have := HL.out; have := hlen2.out; unfold maxLen; omega
      case c4 => have := HL.out; have := hlen2.out; omega
      case c5 => have := hgW1.size; simp; omega
      · intro v' w4 hown' hgrow _ hloc
        have hgA : W.grownBy (w1.alloc (.cells #[.int .i64 x] 3)) none := hgW1.andThen (World.grownBy_alloc w1 _ none) (fun j hj => by cases hj)
        have hrgA := hrg1.alloc (.cells #[.int .i64 x] 3)
        have hrowA := hrow1.alloc (.cells #[.int .i64 x] 3)
        have hne : ∀ g, u3.ownBlock = some g → g ≠ W.heap.size ∧ W.heap.size ≤ g := fun g hg => ⟨iter_row hrgA hrowA g hg, (hrowA.lt g hg).1⟩
        have hrg4 := hrgA.kept hgrow (by
          intro e
          have := (hne bm e.symm).2
          omega) (by
          intro e
          exact (hne _ e.symm).1 rfl)
        have hgW4 : W.grownBy w4 none := hgA.andThen hgrow (fun j hj => .inl (hne j hj).2)
        have hrow4 : w4.ownsRow W.heap.size 3 1 v' (ks ++ [x]).length ((ks ++ [x]).map (Value.int .i64)) := by simpa using hown'
        have HC4 : Hid (Coll D0 (fun z => left z && !z.sameKey (.int .i64 x)) (ks ++ [x])) := hC.out.step hlx hhx
        have HL4 : Hid ((ks ++ [x]).length + cnt1 ≤ K0.length) := by
          show _ ≤ _
          have := hlen2.out
          simp
          omega
        clear hown' hgrow hloc hrgA hrowA hgA hrow1 hrg1 hgW1 hne
        go_wp2
        refine ⟨⟨v', ⟨_, cnt1, hrg4, ks ++ [x], hrow4, HC4, HL4, (fun h => by simp at h), hgW4⟩, _, _, _, _, _, _, _, _, _, rfl⟩, ?_⟩
        rw [hrg4.left_eq]
        exact hlt

end Go.Proofs.Ytmenfnapbggglaa
