/- heraldlaw18.RunParses answers true for every input: the card of its row, of a calm outside and of the variables as the program's text lays them. (SbRunParses) -/
import Derived.Test.YtnoghchcboiojaaGreatDoorPL1
import Derived.Test.YtnoghchcboiojaaGreatDoorPE1
import Derived.Test.YtnoghchcboiojaaGreatDoorPE2
import Derived.Test.YtnoghchcboiojaaGreatDoorCards
import Derived.Test.YtnoghchcboiojaaGreatDoorTie
set_option linter.unusedVariables false
set_option linter.unusedSimpArgs false
section
set_option maxRecDepth 100000
namespace Go.Proofs.YtnoghchcboiojaaGreatDoor
open Go.Ev
theorem runParses_inPlace : (Rows.runParsesRow.inPlace == Tryz.prog.inPlace 3) = true := by
 rw [inPlace_is seat_tab (reach_of 3)]
 kernel_rfl
theorem runParses_unf : Tryz.prog.unfollowed 3 = true := by
 rw [unfollowed_is seat_tab (reach_of 3)]
 kernel_rfl
theorem runParses_unfollowed : (Rows.runParsesRow.unfollowed == Tryz.prog.unfollowed 3) = true := by
 rw [runParses_unf]
 kernel_rfl
theorem runParses_recurses : (Rows.runParsesRow.recurses == Tryz.prog.recurses 3) = true := by
 rw [recurses_is runParses_unf]
 kernel_rfl
theorem runParses_named : (Rows.runParsesRow.named == Tryz.prog.varsNamed 3) = true := by
 rw [varsNamed_is seat_tab (reach_of 3)]
 kernel_rfl
theorem runParses_closed : joinedFacts Tryz.prog 3 Tryz.f3 Rows.runParsesSpec Rows.runParsesRow = true := by
 unfold joinedFacts
 rw [runParses_inPlace,runParses_unfollowed,runParses_recurses,runParses_named,seat_laidOut,seat_mapsRowed,seat_plainKeys,seat_stopsHeard,seat_stops,seat_stopKnobs,seat_mayEnter]
 kernel_rfl
theorem runParses_fn : Tryz.prog.funcNamed "herald/heraldlaw18.RunParses" = some 3 := by kernel_rfl
theorem runParses_go : Tryz.prog.goes 3 = true := by
 unfold Program.goes
 rw [runParses_unf,seat_goes]
 exact Bool.or_true _
theorem runParses_from : Tryz.prog.goesFrom "herald/heraldlaw18.RunParses" = true := by
 unfold Program.goesFrom
 rw [runParses_fn,Option.any_some]
 exact runParses_go
theorem runParses_goes : true = Rows.runParsesRow.goesBy Tryz.prog := by
 unfold OpenClaim.goesBy Program.goesAt
 rw [show Rows.runParsesRow.func = "herald/heraldlaw18.RunParses" from rfl, runParses_from]
 exact (Bool.true_or _).symm
theorem runParses_row : Rows.RunParsesSaid :=
 OpenClaim.holds_of_wide_leaving_time 3 Tryz.f3 rfl rfl rfl rfl rfl rfl rfl ⟨rfl,rfl,rfl,rfl,rfl⟩ rfl rfl rfl rfl rfl runParses_fn Tryz.func3 runParses_closed
  (of_decide_eq_true (by kernel_rfl)) (by unfold Func.isWrapper;first | (rw [if_pos (by decide +kernel)];kernel_rfl) | (rw [if_neg (by decide +kernel)];exact ⟨rfl,rfl⟩))
  (fun os started H enc _ F => runParses_lifted os started H enc F)
theorem runParses_holds : Rows.RunParsesCardSaid :=
 card_goes [.data, .data, .data, .data, .sentinel, .sentinel, .data, .data, .data, .data, .widerDeep, .data, .pinned] true (true, "31a973c4003ff9841b3857ccab2673941dc47fe565176de8e5c12dc79d05f0b0") true runParses_row (by kernel_rfl) runParses_row_tie rfl ⟨rfl, rfl⟩ (by kernel_rfl) rfl
  (fun f fn hf hfn => by
    obtain rfl : f = 3 := Option.some.inj (runParses_fn.symm.trans hf) |>.symm
    obtain rfl : fn = Tryz.f3 := (Option.some.inj (Tryz.func3.symm.trans hfn)).symm
    exact ⟨by kernel_rfl,fun j t ht => by
     rw [Tryz.params3] at ht
     have hm : t ∈ [9] := by simpa using Array.mem_of_getElem? ht
     have hall : ([9].all fun u => !Tryz.prog.wantsStandIn u) = true := by kernel_rfl
     exact (show Tryz.prog.wantsStandIn t = false by simpa using List.all_eq_true.1 hall t hm)⟩)
  runParses_goes
end Go.Proofs.YtnoghchcboiojaaGreatDoor
end
