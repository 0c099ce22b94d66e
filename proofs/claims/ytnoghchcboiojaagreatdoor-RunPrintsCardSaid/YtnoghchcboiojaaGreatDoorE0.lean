/- Texts of the proofs over heraldlaw18, put together by a program (merge18c.py): Sx2. -/
import Derived.Test.YtnoghchcboiojaaGreatDoorD12
import Derived.Test.YtnoghchcboiojaaGreatDoorC10
import Derived.Test.YtnoghchcboiojaaGreatDoorRows
set_option linter.unusedVariables false
set_option linter.unusedSimpArgs false
section
set_option maxRecDepth 100000
namespace Go.Proofs.YtnoghchcboiojaaGreatDoor
open Go.Ev
theorem hget_abs {W : World} {g : Nat} {cs : Array Value} {t : TypeId} {fr : Nat × Nat} (h : W.heap[g]? = some (.cells cs t fr)) : hget (absH W) g = some (.cells (cs.toList.map (absV W.heap.size)) 0 false []) := by
 unfold hget absH
 rw [Array.getElem?_map,h]
 rfl
theorem abs_strs (N : Nat) (zs : List (List UInt8)) : (zs.map fun z => Value.string ⟨⟨z⟩⟩).map (absV N) = zs.map vs := by
 rw [List.map_map]
 exact List.map_congr_left fun z _ => rfl
structure InList (l : List (String × DataW Unit)) : Prop where
 plain : (l.all fun x => x.2.handleName?.isNone) = true
 pow : ("internal/strconv.uint64pow10", Rows.laid_internal_strconv_uint64pow10) ∈ l
 lines : ("herald/heraldref18.lines", Rows.laid_herald_heraldref18_lines) ∈ l
 opl : ("herald/heraldref18.opLines", Rows.laid_herald_heraldref18_opLines) ∈ l
 watches : ("herald/run.watches", Rows.laid_herald_run_watches) ∈ l
theorem d_lines : (Rows.laid_herald_heraldref18_lines : DataW Unit) = .agg (stepLs.map fun z => .lit (.string z)) := by kernel_rfl
theorem d_opl : (Rows.laid_herald_heraldref18_opLines : DataW Unit) = .agg (opLs.map fun z => .lit (.string z)) := by kernel_rfl
theorem d_watches : (Rows.laid_herald_run_watches : DataW Unit) = .agg (([[],Rn.w_node,Rn.w_kids,Rn.w_subtree] : List (List UInt8)).map fun z => .lit (.string z)) := by kernel_rfl
theorem d_pow : (Rows.laid_internal_strconv_uint64pow10 : DataW Unit) = .agg (gTabL.map fun z => .lit (.int .u64 z)) := by kernel_rfl
variable {l : List (String × DataW Unit)} {W : World}
theorem vars_of (hl : InList l) (h : laidMetH Tryz.prog l W) (hs : W.ShapedOpen Tryz.prog) (h14 : 14 ≤ W.heap.size) : Vars W := by
 refine ⟨h14,?_⟩
 have := laid_is hl.plain h hl.pow
 rw [d_pow] at this
 exact ints_of (m := 20) (g := 7) (t := 332) (e := 241) (by kernel_rfl) (by kernel_rfl) (by kernel_rfl) (by kernel_rfl) (by kernel_rfl) (by kernel_rfl) this
theorem glo_of (hl : InList l) (h : laidMetH Tryz.prog l W) (hs : W.ShapedOpen Tryz.prog) : Glo (absH W) := by
 refine ⟨?_,?_⟩
 ·have := laid_is hl.plain h hl.watches
  rw [d_watches] at this
  obtain ⟨t,fr,e⟩ := strs_of (m := 4) (g := 1) (t := 142) (e := 9) (by kernel_rfl) (by kernel_rfl) (by kernel_rfl) (by kernel_rfl) (by kernel_rfl) (by kernel_rfl) this
  rw [hget_abs e]
  rfl
 ·obtain ⟨z,t,fr,e⟩ := int_of_shape (g := 4) (k := .i64) (t := 3) (zero := #[.int .i64 0]) hs (by rw [show Tryz.prog.globals.size = 14 from by kernel_rfl];decide) (by kernel_rfl) rfl (by kernel_rfl) (by kernel_rfl) (by kernel_rfl)
  exact ⟨z,by rw [hget_abs e];rfl⟩
theorem gloR_of (hl : InList l) (h : laidMetH Tryz.prog l W) : GloR (absH W) := by
 refine ⟨?_,?_⟩
 ·have := laid_is hl.plain h hl.lines
  rw [d_lines] at this
  obtain ⟨t,fr,e⟩ := strs_of (m := 17) (g := 0) (t := 113) (e := 9) (by kernel_rfl) (by kernel_rfl) (by kernel_rfl) (by kernel_rfl) (by kernel_rfl) (by kernel_rfl) this
  rw [hget_abs e,abs_strs]
 ·have := laid_is hl.plain h hl.opl
  rw [d_opl] at this
  obtain ⟨t,fr,e⟩ := strs_of (m := 8) (g := 3) (t := 203) (e := 9) (by kernel_rfl) (by kernel_rfl) (by kernel_rfl) (by kernel_rfl) (by kernel_rfl) (by kernel_rfl) this
  rw [hget_abs e,abs_strs]
end Go.Proofs.YtnoghchcboiojaaGreatDoor
end
