/- heraldlaw18.RunPrints answers true for every input: the card of its row, of a calm outside and of the variables as the program's text lays them. (SbRunPrints) -/
import Derived.Test.YtnoghchcboiojaaGreatDoorW1
import Derived.Test.YtnoghchcboiojaaGreatDoorE1
import Derived.Test.YtnoghchcboiojaaGreatDoorE2
import Derived.Test.YtnoghchcboiojaaGreatDoorCards
import Derived.Test.YtnoghchcboiojaaGreatDoorTie
set_option linter.unusedVariables false
set_option linter.unusedSimpArgs false
section
set_option maxRecDepth 100000
namespace Go.Proofs.YtnoghchcboiojaaGreatDoor
open Go.Ev
theorem runPrints_inPlace : (Rows.runPrintsRow.inPlace == Tryz.prog.inPlace 4) = true := by
 rw [inPlace_is seat_tab (reach_of 4)]
 kernel_rfl
theorem runPrints_unf : Tryz.prog.unfollowed 4 = true := by
 rw [unfollowed_is seat_tab (reach_of 4)]
 kernel_rfl
theorem runPrints_unfollowed : (Rows.runPrintsRow.unfollowed == Tryz.prog.unfollowed 4) = true := by
 rw [runPrints_unf]
 kernel_rfl
theorem runPrints_recurses : (Rows.runPrintsRow.recurses == Tryz.prog.recurses 4) = true := by
 rw [recurses_is runPrints_unf]
 kernel_rfl
theorem runPrints_named : (Rows.runPrintsRow.named == Tryz.prog.varsNamed 4) = true := by
 rw [varsNamed_is seat_tab (reach_of 4)]
 kernel_rfl
theorem runPrints_closed : joinedFacts Tryz.prog 4 Tryz.f4 Rows.runPrintsSpec Rows.runPrintsRow = true := by
 unfold joinedFacts
 rw [runPrints_inPlace,runPrints_unfollowed,runPrints_recurses,runPrints_named,seat_laidOut,seat_mapsRowed,seat_plainKeys,seat_stopsHeard,seat_stops,seat_stopKnobs,seat_mayEnter]
 kernel_rfl
theorem runPrints_fn : Tryz.prog.funcNamed "herald/heraldlaw18.RunPrints" = some 4 := by kernel_rfl
theorem runPrints_go : Tryz.prog.goes 4 = true := by
 unfold Program.goes
 rw [runPrints_unf,seat_goes]
 exact Bool.or_true _
theorem runPrints_from : Tryz.prog.goesFrom "herald/heraldlaw18.RunPrints" = true := by
 unfold Program.goesFrom
 rw [runPrints_fn,Option.any_some]
 exact runPrints_go
theorem runPrints_goes : true = Rows.runPrintsRow.goesBy Tryz.prog := by
 unfold OpenClaim.goesBy Program.goesAt
 rw [show Rows.runPrintsRow.func = "herald/heraldlaw18.RunPrints" from rfl, runPrints_from]
 exact (Bool.true_or _).symm
theorem runPrints_row : Rows.RunPrintsSaid :=
 OpenClaim.holds_of_wide_leaving_time 4 Tryz.f4 rfl rfl rfl rfl rfl rfl rfl ⟨rfl,rfl,rfl,rfl,rfl⟩ rfl rfl rfl rfl rfl runPrints_fn Tryz.func4 runPrints_closed
  (of_decide_eq_true (by kernel_rfl)) (by unfold Func.isWrapper;first | (rw [if_pos (by decide +kernel)];kernel_rfl) | (rw [if_neg (by decide +kernel)];exact ⟨rfl,rfl⟩))
  (fun os started H enc _ F => runPrints_lifted os started H enc F)
theorem runPrints_holds : Rows.RunPrintsCardSaid :=
 card_goes [.data, .data, .data, .data, .sentinel, .sentinel, .data, .data, .data, .data, .widerDeep, .data, .pinned] true (true, "31a973c4003ff9841b3857ccab2673941dc47fe565176de8e5c12dc79d05f0b0") true runPrints_row (by kernel_rfl) runPrints_row_tie rfl ⟨rfl, rfl⟩ (by kernel_rfl) rfl
  (fun f fn hf hfn => by
    obtain rfl : f = 4 := Option.some.inj (runPrints_fn.symm.trans hf) |>.symm
    obtain rfl : fn = Tryz.f4 := (Option.some.inj (Tryz.func4.symm.trans hfn)).symm
    exact ⟨by kernel_rfl,fun j t ht => by
     rw [Tryz.params4] at ht
     have hm : t ∈ [23,24] := by simpa using Array.mem_of_getElem? ht
     have hall : ([23,24].all fun u => !Tryz.prog.wantsStandIn u) = true := by kernel_rfl
     exact (show Tryz.prog.wantsStandIn t = false by simpa using List.all_eq_true.1 hall t hm)⟩)
  runPrints_goes
end Go.Proofs.YtnoghchcboiojaaGreatDoor
end
