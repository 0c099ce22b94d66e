/- heraldlaw18.RunSteps answers true for every input: the card of its row, of a calm outside and of the variables as the program's text lays them. (SbRunSteps) -/
import Derived.Test.YtnoghchcboiojaaGreatDoorS1
import Derived.Test.YtnoghchcboiojaaGreatDoorE1
import Derived.Test.YtnoghchcboiojaaGreatDoorE2
import Derived.Test.YtnoghchcboiojaaGreatDoorCards
import Derived.Test.YtnoghchcboiojaaGreatDoorTie
set_option linter.unusedVariables false
set_option linter.unusedSimpArgs false
section
set_option maxRecDepth 100000
namespace Go.Proofs.YtnoghchcboiojaaGreatDoor
open Go.Ev
theorem runSteps_inPlace : (Rows.runStepsRow.inPlace == Tryz.prog.inPlace 6) = true := by
 rw [inPlace_is seat_tab (reach_of 6)]
 kernel_rfl
theorem runSteps_unf : Tryz.prog.unfollowed 6 = true := by
 rw [unfollowed_is seat_tab (reach_of 6)]
 kernel_rfl
theorem runSteps_unfollowed : (Rows.runStepsRow.unfollowed == Tryz.prog.unfollowed 6) = true := by
 rw [runSteps_unf]
 kernel_rfl
theorem runSteps_recurses : (Rows.runStepsRow.recurses == Tryz.prog.recurses 6) = true := by
 rw [recurses_is runSteps_unf]
 kernel_rfl
theorem runSteps_named : (Rows.runStepsRow.named == Tryz.prog.varsNamed 6) = true := by
 rw [varsNamed_is seat_tab (reach_of 6)]
 kernel_rfl
theorem runSteps_closed : joinedFacts Tryz.prog 6 Tryz.f6 Rows.runStepsSpec Rows.runStepsRow = true := by
 unfold joinedFacts
 rw [runSteps_inPlace,runSteps_unfollowed,runSteps_recurses,runSteps_named,seat_laidOut,seat_mapsRowed,seat_plainKeys,seat_stopsHeard,seat_stops,seat_stopKnobs,seat_mayEnter]
 kernel_rfl
theorem runSteps_fn : Tryz.prog.funcNamed "herald/heraldlaw18.RunSteps" = some 6 := by kernel_rfl
theorem runSteps_go : Tryz.prog.goes 6 = true := by
 unfold Program.goes
 rw [runSteps_unf,seat_goes]
 exact Bool.or_true _
theorem runSteps_from : Tryz.prog.goesFrom "herald/heraldlaw18.RunSteps" = true := by
 unfold Program.goesFrom
 rw [runSteps_fn,Option.any_some]
 exact runSteps_go
theorem runSteps_goes : true = Rows.runStepsRow.goesBy Tryz.prog := by
 unfold OpenClaim.goesBy Program.goesAt
 rw [show Rows.runStepsRow.func = "herald/heraldlaw18.RunSteps" from rfl, runSteps_from]
 exact (Bool.true_or _).symm
theorem runSteps_row : Rows.RunStepsSaid :=
 OpenClaim.holds_of_wide_leaving_time 6 Tryz.f6 rfl rfl rfl rfl rfl rfl rfl ⟨rfl,rfl,rfl,rfl,rfl⟩ rfl rfl rfl rfl rfl runSteps_fn Tryz.func6 runSteps_closed
  (of_decide_eq_true (by kernel_rfl)) (by unfold Func.isWrapper;first | (rw [if_pos (by decide +kernel)];kernel_rfl) | (rw [if_neg (by decide +kernel)];exact ⟨rfl,rfl⟩))
  (fun os started H enc _ F => runSteps_lifted os started H enc F)
theorem runSteps_holds : Rows.RunStepsCardSaid :=
 card_goes [.data, .data, .data, .data, .sentinel, .sentinel, .data, .data, .data, .data, .widerDeep, .data, .pinned] true (true, "31a973c4003ff9841b3857ccab2673941dc47fe565176de8e5c12dc79d05f0b0") true runSteps_row (by kernel_rfl) runSteps_row_tie rfl ⟨rfl, rfl⟩ (by kernel_rfl) rfl
  (fun f fn hf hfn => by
    obtain rfl : f = 6 := Option.some.inj (runSteps_fn.symm.trans hf) |>.symm
    obtain rfl : fn = Tryz.f6 := (Option.some.inj (Tryz.func6.symm.trans hfn)).symm
    exact ⟨by kernel_rfl,fun j t ht => by
     rw [Tryz.params6] at ht
     have hm : t ∈ [23,24] := by simpa using Array.mem_of_getElem? ht
     have hall : ([23,24].all fun u => !Tryz.prog.wantsStandIn u) = true := by kernel_rfl
     exact (show Tryz.prog.wantsStandIn t = false by simpa using List.all_eq_true.1 hall t hm)⟩)
  runSteps_goes
end Go.Proofs.YtnoghchcboiojaaGreatDoor
end
