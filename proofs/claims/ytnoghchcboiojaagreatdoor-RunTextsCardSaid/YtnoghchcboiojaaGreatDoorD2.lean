/- Texts of the proofs over heraldlaw18, put together by a program (merge18c.py): Rd00. -/
import Derived.Test.YtnoghchcboiojaaGreatDoorProg
import Derived.Recover
import Derived.WalkKit
set_option linter.unusedVariables false
set_option linter.unusedSimpArgs false
section
set_option maxRecDepth 100000
namespace Go.Proofs
open Go.RowKit
namespace YtnoghchcboiojaaGreatDoor
def bodyOf : Option Code → Code × Code × Code
 | some (.seq a (.seq b (.cond _ x _))) => (a,b,x)
 | _ => (.skip,.skip,.skip)
theorem body17 : Tryz.f17.body = some (.seq (bodyOf Tryz.f17.body).1 (.seq (bodyOf Tryz.f17.body).2.1 (.cond (.tmp 12) (bodyOf Tryz.f17.body).2.2 .skip))) := by kernel_rfl
theorem ta_nil (w : World) : (Instr.typeAssert .nilIface 20 48 true).run Tryz.prog w = .ok (.tuple #[.agg #[],.bool false]) w := by
 kernel_rfl
theorem ta_off (v : Value) (w : World) : (Instr.typeAssert (.iface 48 v) 20 48 true).run Tryz.prog w = .ok (.tuple #[v,.bool true]) w := by
 kernel_rfl
theorem idle_at (p0 p1 p2 p3 p4 : Value) (w : World) : CallsD Tryz.prog 17 #[p0,p1,p2,p3,p4] .returning w fun e u' w' => e = .returned (.tuple #[]) ∧ u' = .returning ∧ w' = w.alloc (.cells #[] 48) := by
 refine callsD_of_wpS Tryz.func17 body17 fun c₀ cs hu => ?_
 apply wpS_seq
 have h1 : (bodyOf Tryz.f17.body).1.wpS Tryz.prog (Exit.thenS (((bodyOf Tryz.f17.body).2.1.seq (.cond (.tmp 12) (bodyOf Tryz.f17.body).2.2 .skip)).wpS Tryz.prog (bodyPostS Tryz.prog Tryz.f17 c₀ cs fun e u' w' => e = .returned (.tuple #[]) ∧ u' = .returning ∧ w' = w.alloc (.cells #[] 48))) (bodyPostS Tryz.prog Tryz.f17 c₀ cs fun e u' w' => e = .returned (.tuple #[]) ∧ u' = .returning ∧ w' = w.alloc (.cells #[] 48)))
   { tmps := #[p0,p1,p2,p3,p4,undef,undef,undef,undef,undef,undef,undef,undef,undef,undef],defers := [] } (c₀ :: cs) w := by
  apply wpS_region
  simp [wpOpsS,go_sem,recoverD,hu,Exit.thenS,ta_nil]
  apply wpS_seq
  apply wpS_region
  simp [wpOpsS,go_sem,Exit.thenS]
  refine wpS_cond (t := false) (by simp [Act.eval]) ?_
  simp only [Bool.false_eq_true,if_false]
  refine wpS_of_wp (wp_skip ?_)
  cases c₀
  simp_all [bodyPostS,results,Tryz.results17,Exit.thenS]
 exact h1
theorem catch_at (p0 p1 p2 p3 p4 : Value) (w : World) (R : Ending → FrameMode → World → Prop)
  (h : (bodyOf Tryz.f17.body).2.2.wp Tryz.prog (fun ex a w' => ex = .normal ∧ a.defers = [] ∧ R (.returned (.tuple #[])) (.panicking [{ v := .iface 48 (.agg #[]),recovered := true }]) w')
    { tmps := #[p0,p1,p2,p3,p4,.pointer (some ⟨w.heap.size,0,none⟩),.bool true,.tuple #[.agg #[],.bool true],.iface 48 (.agg #[]),.tuple #[.agg #[],.bool true],.agg #[],.bool true,.bool true,undef,undef],defers := [] } (w.alloc (.cells #[] 48))) :
  CallsD Tryz.prog 17 #[p0,p1,p2,p3,p4] (.panicking [{ v := .iface 48 (.agg #[]),recovered := false }]) w R := by
 refine callsD_of_wpS Tryz.func17 body17 fun c₀ cs hu => ?_
 apply wpS_seq
 have h1 : (bodyOf Tryz.f17.body).1.wpS Tryz.prog (Exit.thenS (((bodyOf Tryz.f17.body).2.1.seq (.cond (.tmp 12) (bodyOf Tryz.f17.body).2.2 .skip)).wpS Tryz.prog (bodyPostS Tryz.prog Tryz.f17 c₀ cs R)) (bodyPostS Tryz.prog Tryz.f17 c₀ cs R))
   { tmps := #[p0,p1,p2,p3,p4,undef,undef,undef,undef,undef,undef,undef,undef,undef,undef],defers := [] } (c₀ :: cs) w := by
  apply wpS_region
  simp [wpOpsS,go_sem,recoverD,hu,Exit.thenS,ta_off]
  apply wpS_seq
  apply wpS_region
  simp [wpOpsS,go_sem,Exit.thenS]
  refine wpS_cond (t := true) (by simp [Act.eval]) ?_
  simp only [if_true]
  refine wpS_of_wp (wp_mono h ?_)
  rintro ex a w' ⟨rfl,h2,h3⟩
  cases c₀
  simp_all [bodyPostS,results,Tryz.results17,Exit.thenS]
 exact h1
end YtnoghchcboiojaaGreatDoor
end Go.Proofs
end
