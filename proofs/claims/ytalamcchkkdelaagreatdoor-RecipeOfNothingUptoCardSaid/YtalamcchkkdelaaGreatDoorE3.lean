/- Texts of the proofs over heraldlaw20, put together by a program (merge20.py): Ob0. -/
import Derived.Test.YtalamcchkkdelaaGreatDoorC15
import Derived.Test.YtalamcchkkdelaaGreatDoorE1
import Derived.Test.YtalamcchkkdelaaGreatDoorE2
import Derived.Test.YtalamcchkkdelaaGreatDoorD3
import Derived.Deep.DeepHandedRow
import Derived.OpenShut
set_option linter.unusedVariables false
set_option linter.unusedSimpArgs false
section
set_option maxRecDepth 100000
namespace Go.Proofs.YtalamcchkkdelaaGreatDoor
open Go.Ev Go.ChangeShapes Go.WideShapes Go.RowKit
theorem hget_abs {W : World} {g : Nat} {cs : Array Value} {t : TypeId} {fr : Nat × Nat} (h : W.heap[g]? = some (.cells cs t fr)) : hget (absH W) g = some (.cells (cs.toList.map (absV W.heap.size)) 0 false []) := by
 unfold hget absH
 rw [Array.getElem?_map,h]
 rfl
theorem abs_u8 (N : Nat) (zs : List Int) : (zs.map fun z => Value.int .u8 z).map (absV N) = zs.map fun z => Value.int .u8 z := by
 rw [List.map_map]
 exact List.map_congr_left fun z _ => rfl
structure InList (l : List (String × DataW Unit)) : Prop where
 plain : (l.all fun x => x.2.handleName?.isNone) = true
 pow : ("internal/strconv.uint64pow10", Rows.laid_internal_strconv_uint64pow10) ∈ l
 named : ("herald/place.named", Rows.laid_herald_place_named) ∈ l
theorem d_named : (Rows.laid_herald_place_named : DataW Unit) = .agg (namedN.map fun z => .lit (.int .u8 z)) := by kernel_rfl
theorem d_pow : (Rows.laid_internal_strconv_uint64pow10 : DataW Unit) = .agg (gTabL.map fun z => .lit (.int .u64 z)) := by kernel_rfl
theorem seat_own : ownKnob Tryz.prog.godebug = none := by kernel_rfl
theorem size_of_shape {W : World} (h : W.ShapedOpen Tryz.prog) : 9 ≤ W.heap.size := by
 have h0 : (((begin Tryz.prog (fun _ _ => 0) default).world.heap[8]?).bind Obj.row?).isSome = true := by kernel_rfl
 obtain ⟨⟨zero,t⟩,hz⟩ := Option.isSome_iff_exists.1 h0
 obtain ⟨cs,hc,_⟩ := h.1 8 zero t (by rw [show Tryz.prog.globals.size = 9 from by kernel_rfl];decide) hz
 have := (Array.getElem?_eq_some_iff.1 hc).1
 omega
section
variable {l : List (String × DataW Unit)} {W : World}
theorem vars_of (hl : InList l) (h : laidMetH Tryz.prog l W) (h9 : 9 ≤ W.heap.size) : Vars W := by
 refine ⟨h9,?_⟩
 have := laid_is hl.plain h hl.pow
 rw [d_pow] at this
 exact ints_of (m := 20) (g := 4) (t := 274) (e := 267) (by kernel_rfl) (by kernel_rfl) (by kernel_rfl) (by kernel_rfl) (by kernel_rfl) (by kernel_rfl) this
theorem glo_of (hl : InList l) (h : laidMetH Tryz.prog l W) (hs : W.ShapedOpen Tryz.prog) : Glo (absH W) := by
 refine ⟨?_,?_⟩
 ·have := laid_is hl.plain h hl.named
  rw [d_named] at this
  obtain ⟨t,fr,e⟩ := ints_of (m := 128) (g := 0) (t := 183) (e := 5) (by kernel_rfl) (by kernel_rfl) (by kernel_rfl) (by kernel_rfl) (by kernel_rfl) (by kernel_rfl) this
  refine ⟨0,false,[],?_⟩
  rw [hget_abs e,abs_u8]
 ·obtain ⟨z,t,fr,e⟩ := int_of_shape (g := 1) (k := .i64) (t := 3) (zero := #[.int .i64 0]) hs (by rw [show Tryz.prog.globals.size = 9 from by kernel_rfl];decide) (by kernel_rfl) rfl (by kernel_rfl) (by kernel_rfl) (by kernel_rfl)
  exact ⟨z,[],_,_,_,by rw [hget_abs e];rfl⟩
end
theorem nothing_in : InList Rows.recipeOfNothingUptoRow.laid := ⟨by kernel_rfl,by simp [Rows.recipeOfNothingUptoRow],by simp [Rows.recipeOfNothingUptoRow]⟩
theorem abs_one {W : World} {base : Nat} {v : Value} (hv : Value.okWide Tryz.prog W .any base 24 v) : v.cells.toList = [v] ∧ absA W.heap.size v = absV W.heap.size v := by
 have hna : ∀ cs,v ≠ .agg cs := by
  intro cs e
  subst e
  unfold Value.okWide at hv
  rw [Tryz.underlying24] at hv
  simp [Cell.okWide,Cell.ok,Tryz.underlying24] at hv
 exact ⟨by cases v <;> first | rfl | exact absurd rfl (hna _),by cases v <;> first | rfl | exact absurd rfl (hna _)⟩
theorem nothing_lifted (os : Os) (started : os.Started) (H : Type) (enc : TypeId × Value → H) (F : Stop.Interp) :
  ReturnsInHanded {} Tryz.checked os 4 .any ((Rows.OpenSpec.upto Rows.recipeOfNothingSpec).preRow enc Tryz.prog Tryz.f4 Rows.recipeOfNothingUptoRow.domain false Rows.recipeOfNothingUptoRow.laid) (((Rows.OpenSpec.upto Rows.recipeOfNothingSpec).at F).post enc Tryz.prog Tryz.f4 false true false false) := by
 refine returnsInHanded_of_row (C := Tryz.checked) (s := Rows.OpenSpec.upto Rows.recipeOfNothingSpec) seat_own started (by kernel_rfl) Tryz.func4
  (witness_row_at (enc := enc) (C := Tryz.checked) false (World.laidAll Tryz.prog os Rows.recipeOfNothingUptoRow.laid) #[.slice none 0 0] (World.laidAll_os _ _ _) (by kernel_rfl) (by kernel_rfl) (by kernel_rfl)
    (OpenSpec.preRow_of_cond 8 (x := ([.nil],[],[])) (by kernel_rfl) (by kernel_rfl) (fun k hk => by cases hk;kernel_rfl) (by kernel_rfl)
      (by rw [MakeChecks.laidMetH_plain _ _ _ (by kernel_rfl)];exact laidMet_laidAll _ (by kernel_rfl) (by kernel_rfl)))) ?_
 intro W base args ds gs before hval hW _ hcond _ hL hsh _
 have hW' : DataW.Whole enc Tryz.prog Tryz.f4.params.toList Rows.recipeOfNothingSpec.vars false W args.toList ds gs before := hW
 obtain ⟨p,q,hA,_,_,_,_⟩ := hW'
 rw [Tryz.params4] at hA hval
 obtain ⟨v0,d0,rfl,rfl,h0⟩ := trodAll_one hA
 have hk := bulks.bound (hcond _ rfl)
 have hb : Rows.uptoBulk d0 ≤ 1048576 := Nat.le_trans (bulks.part_le (by simp)) hk
 obtain ⟨c1,c2⟩ := abs_one (hval 0 24 v0 rfl rfl)
 have hc := open_argB ac_ty h0 hb
 rw [c1] at hc
 obtain ⟨xs,hS⟩ := ob_acts hc
 have h9 := size_of_shape hsh
 obtain ⟨v,h',e,rfl⟩ := law4 (F := 281474976710656) (glo_of nothing_in hL hsh) (by rw [absH_size];omega) hS (by unfold Big;omega)
 refine law_calls (P := Tryz.prog) (f := 4) (cf_ok (281474976710656 + 12)) (vars_of nothing_in hL h9) hW seat_laidOut rfl rfl (by kernel_rfl) Tryz.underlying4 (by kernel_rfl) (h' := h') ?_
 show cf (281474976710656 + 12) 4 _ _ = _
 rw [show (#[v0] : Array Value).toList.map (absA W.heap.size) = [absV W.heap.size v0] from by rw [← c2];rfl]
 exact e
end Go.Proofs.YtalamcchkkdelaaGreatDoor
end
