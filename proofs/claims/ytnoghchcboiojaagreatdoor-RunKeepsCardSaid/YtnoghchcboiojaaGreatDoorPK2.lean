/- heraldlaw18.RunKeeps answers true for every input: the card of its row, of a calm outside and of the variables as the program's text lays them. (SbRunKeeps) -/
import Derived.Test.YtnoghchcboiojaaGreatDoorPK1
import Derived.Test.YtnoghchcboiojaaGreatDoorPE1
import Derived.Test.YtnoghchcboiojaaGreatDoorPE2
import Derived.Test.YtnoghchcboiojaaGreatDoorCards
import Derived.Test.YtnoghchcboiojaaGreatDoorTie
set_option linter.unusedVariables false
set_option linter.unusedSimpArgs false
section
set_option maxRecDepth 100000
namespace Go.Proofs.YtnoghchcboiojaaGreatDoor
open Go.Ev
theorem runKeeps_inPlace : (Rows.runKeepsRow.inPlace == Tryz.prog.inPlace 8) = true := by
 rw [inPlace_is seat_tab (reach_of 8)]
 kernel_rfl
theorem runKeeps_unf : Tryz.prog.unfollowed 8 = true := by
 rw [unfollowed_is seat_tab (reach_of 8)]
 kernel_rfl
theorem runKeeps_unfollowed : (Rows.runKeepsRow.unfollowed == Tryz.prog.unfollowed 8) = true := by
 rw [runKeeps_unf]
 kernel_rfl
theorem runKeeps_recurses : (Rows.runKeepsRow.recurses == Tryz.prog.recurses 8) = true := by
 rw [recurses_is runKeeps_unf]
 kernel_rfl
theorem runKeeps_named : (Rows.runKeepsRow.named == Tryz.prog.varsNamed 8) = true := by
 rw [varsNamed_is seat_tab (reach_of 8)]
 kernel_rfl
theorem runKeeps_closed : joinedFacts Tryz.prog 8 Tryz.f8 Rows.runKeepsSpec Rows.runKeepsRow = true := by
 unfold joinedFacts
 rw [runKeeps_inPlace,runKeeps_unfollowed,runKeeps_recurses,runKeeps_named,seat_laidOut,seat_mapsRowed,seat_plainKeys,seat_stopsHeard,seat_stops,seat_stopKnobs,seat_mayEnter]
 kernel_rfl
theorem runKeeps_fn : Tryz.prog.funcNamed "herald/heraldlaw18.RunKeeps" = some 8 := by kernel_rfl
theorem runKeeps_go : Tryz.prog.goes 8 = true := by
 unfold Program.goes
 rw [runKeeps_unf,seat_goes]
 exact Bool.or_true _
theorem runKeeps_from : Tryz.prog.goesFrom "herald/heraldlaw18.RunKeeps" = true := by
 unfold Program.goesFrom
 rw [runKeeps_fn,Option.any_some]
 exact runKeeps_go
theorem runKeeps_goes : true = Rows.runKeepsRow.goesBy Tryz.prog := by
 unfold OpenClaim.goesBy Program.goesAt
 rw [show Rows.runKeepsRow.func = "herald/heraldlaw18.RunKeeps" from rfl, runKeeps_from]
 exact (Bool.true_or _).symm
theorem runKeeps_row : Rows.RunKeepsSaid :=
 OpenClaim.holds_of_wide_leaving_time 8 Tryz.f8 rfl rfl rfl rfl rfl rfl rfl ⟨rfl,rfl,rfl,rfl,rfl⟩ rfl rfl rfl rfl rfl runKeeps_fn Tryz.func8 runKeeps_closed
  (of_decide_eq_true (by kernel_rfl)) (by unfold Func.isWrapper;first | (rw [if_pos (by decide +kernel)];kernel_rfl) | (rw [if_neg (by decide +kernel)];exact ⟨rfl,rfl⟩))
  (fun os started H enc _ F => runKeeps_lifted os started H enc F)
theorem runKeeps_holds : Rows.RunKeepsCardSaid :=
 card_goes [.data, .data, .data, .data, .sentinel, .sentinel, .data, .data, .data, .data, .widerDeep, .data, .pinned] true (true, "31a973c4003ff9841b3857ccab2673941dc47fe565176de8e5c12dc79d05f0b0") true runKeeps_row (by kernel_rfl) runKeeps_row_tie rfl ⟨rfl, rfl⟩ (by kernel_rfl) rfl
  (fun f fn hf hfn => by
    obtain rfl : f = 8 := Option.some.inj (runKeeps_fn.symm.trans hf) |>.symm
    obtain rfl : fn = Tryz.f8 := (Option.some.inj (Tryz.func8.symm.trans hfn)).symm
    exact ⟨by kernel_rfl,fun j t ht => by
     rw [Tryz.params8] at ht
     have hm : t ∈ [9] := by simpa using Array.mem_of_getElem? ht
     have hall : ([9].all fun u => !Tryz.prog.wantsStandIn u) = true := by kernel_rfl
     exact (show Tryz.prog.wantsStandIn t = false by simpa using List.all_eq_true.1 hall t hm)⟩)
  runKeeps_goes
end Go.Proofs.YtnoghchcboiojaaGreatDoor
end
