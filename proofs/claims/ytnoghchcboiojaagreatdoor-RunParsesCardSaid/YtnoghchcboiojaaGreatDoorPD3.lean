/- Texts of the proofs over heraldlaw18, put together by a program (merge18c.py): Rd1. -/
import Derived.Test.YtnoghchcboiojaaGreatDoorProg
import Derived.Recover
import Derived.WalkKit
set_option linter.unusedVariables false
set_option linter.unusedSimpArgs false
section
set_option maxRecDepth 100000
namespace Go.Proofs
open Go.RowKit
namespace YtnoghchcboiojaaGreatDoor
def body28Of : Option Code → Code × Code × Code
 | some (.seq a (.seq b (.cond _ x _))) => (a,b,x)
 | _ => (.skip,.skip,.skip)
theorem body28 : Tryz.f28.body = some (.seq (body28Of Tryz.f28.body).1 (.seq (body28Of Tryz.f28.body).2.1 (.cond (.tmp 9) (body28Of Tryz.f28.body).2.2 .skip))) := by kernel_rfl
theorem ta28_nil (w : World) : (Instr.typeAssert .nilIface 20 48 true).run Tryz.prog w = .ok (.tuple #[.agg #[],.bool false]) w := by
 kernel_rfl
theorem ta28_off (v : Value) (w : World) : (Instr.typeAssert (.iface 48 v) 20 48 true).run Tryz.prog w = .ok (.tuple #[v,.bool true]) w := by
 kernel_rfl
theorem idle28 (p0 p1 : Value) (w : World) : CallsD Tryz.prog 28 #[p0,p1] .returning w fun e u' w' => e = .returned (.tuple #[]) ∧ u' = .returning ∧ w' = w.alloc (.cells #[] 48) := by
 refine callsD_of_wpS Tryz.func28 body28 fun c₀ cs hu => ?_
 apply wpS_seq
 have h1 : (body28Of Tryz.f28.body).1.wpS Tryz.prog (Exit.thenS (((body28Of Tryz.f28.body).2.1.seq (.cond (.tmp 9) (body28Of Tryz.f28.body).2.2 .skip)).wpS Tryz.prog (bodyPostS Tryz.prog Tryz.f28 c₀ cs fun e u' w' => e = .returned (.tuple #[]) ∧ u' = .returning ∧ w' = w.alloc (.cells #[] 48))) (bodyPostS Tryz.prog Tryz.f28 c₀ cs fun e u' w' => e = .returned (.tuple #[]) ∧ u' = .returning ∧ w' = w.alloc (.cells #[] 48)))
   { tmps := #[p0,p1,undef,undef,undef,undef,undef,undef,undef,undef],defers := [] } (c₀ :: cs) w := by
  apply wpS_region
  simp [wpOpsS,go_sem,recoverD,hu,Exit.thenS,ta28_nil]
  apply wpS_seq
  apply wpS_region
  simp [wpOpsS,go_sem,Exit.thenS]
  refine wpS_cond (t := false) (by simp [Act.eval]) ?_
  simp only [Bool.false_eq_true,if_false]
  refine wpS_of_wp (wp_skip ?_)
  cases c₀
  simp_all [bodyPostS,results,Tryz.results28,Exit.thenS]
 exact h1
theorem catch28 (t c : Nat) (x y : Value) (w : World) (ht : w.heap[t]? = some (.cells #[x] 9)) (hc : w.heap[c]? = some (.cells #[y] 25)) (hne : t ≠ c) :
  CallsD Tryz.prog 28 #[.pointer (some ⟨t,0,none⟩),.pointer (some ⟨c,0,none⟩)] (.panicking [{ v := .iface 48 (.agg #[]),recovered := false }]) w fun e u' w' =>
   e = .returned (.tuple #[]) ∧ u' = .panicking [{ v := .iface 48 (.agg #[]),recovered := true }] ∧ w' = ((w.alloc (.cells #[] 48)).setCell ⟨t,0,none⟩ (.string .empty)).setCell ⟨c,0,none⟩ (.int .i64 180) := by
 have hts : t < w.heap.size := (Array.getElem?_eq_some_iff.1 ht).1
 have hcs : c < w.heap.size := (Array.getElem?_eq_some_iff.1 hc).1
 refine callsD_of_wpS Tryz.func28 body28 fun c₀ cs hu => ?_
 apply wpS_seq
 have h1 : (body28Of Tryz.f28.body).1.wpS Tryz.prog (Exit.thenS (((body28Of Tryz.f28.body).2.1.seq (.cond (.tmp 9) (body28Of Tryz.f28.body).2.2 .skip)).wpS Tryz.prog (bodyPostS Tryz.prog Tryz.f28 c₀ cs fun e u' w' =>
   e = .returned (.tuple #[]) ∧ u' = .panicking [{ v := .iface 48 (.agg #[]),recovered := true }] ∧ w' = ((w.alloc (.cells #[] 48)).setCell ⟨t,0,none⟩ (.string .empty)).setCell ⟨c,0,none⟩ (.int .i64 180)))
    (bodyPostS Tryz.prog Tryz.f28 c₀ cs fun e u' w' => e = .returned (.tuple #[]) ∧ u' = .panicking [{ v := .iface 48 (.agg #[]),recovered := true }] ∧ w' = ((w.alloc (.cells #[] 48)).setCell ⟨t,0,none⟩ (.string .empty)).setCell ⟨c,0,none⟩ (.int .i64 180)))
   { tmps := #[.pointer (some ⟨t,0,none⟩),.pointer (some ⟨c,0,none⟩),undef,undef,undef,undef,undef,undef,undef,undef],defers := [] } (c₀ :: cs) w := by
  apply wpS_region
  simp [wpOpsS,go_sem,recoverD,hu,Exit.thenS,ta28_off]
  apply wpS_seq
  apply wpS_region
  simp [wpOpsS,go_sem,Exit.thenS]
  refine wpS_cond (t := true) (by simp [Act.eval]) ?_
  simp only [if_true]
  have hx : (body28Of Tryz.f28.body).2.2.wp Tryz.prog (fun ex a w' => ex = .normal ∧ a.defers = [] ∧ w' = ((w.alloc (.cells #[] 48)).setCell ⟨t,0,none⟩ (.string .empty)).setCell ⟨c,0,none⟩ (.int .i64 180))
    { tmps := #[.pointer (some ⟨t,0,none⟩),.pointer (some ⟨c,0,none⟩),.pointer (some ⟨w.heap.size,0,none⟩),.bool true,.tuple #[.agg #[],.bool true],.iface 48 (.agg #[]),.tuple #[.agg #[],.bool true],.agg #[],.bool true,.bool true],defers := [] } (w.alloc (.cells #[] 48)) := by
   have ha : (w.alloc (.cells #[] 48)).heap[t]? = some (.cells #[x] 9) := by
    show (w.heap.push _)[t]? = _
    rw [Array.getElem?_push,if_neg (by omega)];exact ht
   have hb : (w.alloc (.cells #[] 48)).heap[c]? = some (.cells #[y] 25) := by
    show (w.heap.push _)[c]? = _
    rw [Array.getElem?_push,if_neg (by omega)];exact hc
   have c1 : (w.alloc (.cells #[] 48)).cell? ⟨t,0,none⟩ = some x := by simp [World.cell?,ha]
   have c2 : (w.alloc (.cells #[] 48)).cell? ⟨c,0,none⟩ = some y := by simp [World.cell?,hb]
   have f1 : (w.alloc (.cells #[] 48)).frozen? ⟨t,0,none⟩ = false := by simp [World.frozen?,ha]
   have f2 : (w.alloc (.cells #[] 48)).frozen? ⟨c,0,none⟩ = false := by simp [World.frozen?,hb]
   generalize w.alloc (.cells #[] 48) = w1 at *
   show (Code.region 2 _ false).wp _ _ _ _
   go_wp2
   rfl
  refine wpS_of_wp (wp_mono hx ?_)
  rintro ex a w' ⟨rfl,h2,h3⟩
  cases c₀
  simp_all [bodyPostS,results,Tryz.results28,Exit.thenS]
 exact h1
end YtnoghchcboiojaaGreatDoor
end Go.Proofs
end
