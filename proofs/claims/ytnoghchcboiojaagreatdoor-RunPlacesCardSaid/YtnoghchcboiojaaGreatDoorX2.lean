/- heraldlaw18.RunPlaces answers true for every input: the card of its row, of a calm outside and of the variables as the program's text lays them. (SbRunPlaces) -/
import Derived.Test.YtnoghchcboiojaaGreatDoorX1
import Derived.Test.YtnoghchcboiojaaGreatDoorE1
import Derived.Test.YtnoghchcboiojaaGreatDoorE2
import Derived.Test.YtnoghchcboiojaaGreatDoorCards
import Derived.Test.YtnoghchcboiojaaGreatDoorTie
set_option linter.unusedVariables false
set_option linter.unusedSimpArgs false
section
set_option maxRecDepth 100000
namespace Go.Proofs.YtnoghchcboiojaaGreatDoor
open Go.Ev
theorem runPlaces_inPlace : (Rows.runPlacesRow.inPlace == Tryz.prog.inPlace 7) = true := by
 rw [inPlace_is seat_tab (reach_of 7)]
 kernel_rfl
theorem runPlaces_unf : Tryz.prog.unfollowed 7 = true := by
 rw [unfollowed_is seat_tab (reach_of 7)]
 kernel_rfl
theorem runPlaces_unfollowed : (Rows.runPlacesRow.unfollowed == Tryz.prog.unfollowed 7) = true := by
 rw [runPlaces_unf]
 kernel_rfl
theorem runPlaces_recurses : (Rows.runPlacesRow.recurses == Tryz.prog.recurses 7) = true := by
 rw [recurses_is runPlaces_unf]
 kernel_rfl
theorem runPlaces_named : (Rows.runPlacesRow.named == Tryz.prog.varsNamed 7) = true := by
 rw [varsNamed_is seat_tab (reach_of 7)]
 kernel_rfl
theorem runPlaces_closed : joinedFacts Tryz.prog 7 Tryz.f7 Rows.runPlacesSpec Rows.runPlacesRow = true := by
 unfold joinedFacts
 rw [runPlaces_inPlace,runPlaces_unfollowed,runPlaces_recurses,runPlaces_named,seat_laidOut,seat_mapsRowed,seat_plainKeys,seat_stopsHeard,seat_stops,seat_stopKnobs,seat_mayEnter]
 kernel_rfl
theorem runPlaces_fn : Tryz.prog.funcNamed "herald/heraldlaw18.RunPlaces" = some 7 := by kernel_rfl
theorem runPlaces_go : Tryz.prog.goes 7 = true := by
 unfold Program.goes
 rw [runPlaces_unf,seat_goes]
 exact Bool.or_true _
theorem runPlaces_from : Tryz.prog.goesFrom "herald/heraldlaw18.RunPlaces" = true := by
 unfold Program.goesFrom
 rw [runPlaces_fn,Option.any_some]
 exact runPlaces_go
theorem runPlaces_goes : true = Rows.runPlacesRow.goesBy Tryz.prog := by
 unfold OpenClaim.goesBy Program.goesAt
 rw [show Rows.runPlacesRow.func = "herald/heraldlaw18.RunPlaces" from rfl, runPlaces_from]
 exact (Bool.true_or _).symm
theorem runPlaces_row : Rows.RunPlacesSaid :=
 OpenClaim.holds_of_wide_leaving_time 7 Tryz.f7 rfl rfl rfl rfl rfl rfl rfl ⟨rfl,rfl,rfl,rfl,rfl⟩ rfl rfl rfl rfl rfl runPlaces_fn Tryz.func7 runPlaces_closed
  (of_decide_eq_true (by kernel_rfl)) (by unfold Func.isWrapper;first | (rw [if_pos (by decide +kernel)];kernel_rfl) | (rw [if_neg (by decide +kernel)];exact ⟨rfl,rfl⟩))
  (fun os started H enc _ F => runPlaces_lifted os started H enc F)
theorem runPlaces_holds : Rows.RunPlacesCardSaid :=
 card_goes [.data, .data, .data, .data, .sentinel, .sentinel, .data, .data, .data, .data, .widerDeep, .data, .pinned] true (true, "31a973c4003ff9841b3857ccab2673941dc47fe565176de8e5c12dc79d05f0b0") true runPlaces_row (by kernel_rfl) runPlaces_row_tie rfl ⟨rfl, rfl⟩ (by kernel_rfl) rfl
  (fun f fn hf hfn => by
    obtain rfl : f = 7 := Option.some.inj (runPlaces_fn.symm.trans hf) |>.symm
    obtain rfl : fn = Tryz.f7 := (Option.some.inj (Tryz.func7.symm.trans hfn)).symm
    exact ⟨by kernel_rfl,fun j t ht => by
     rw [Tryz.params7] at ht
     have hm : t ∈ [23,24,39] := by simpa using Array.mem_of_getElem? ht
     have hall : ([23,24,39].all fun u => !Tryz.prog.wantsStandIn u) = true := by kernel_rfl
     exact (show Tryz.prog.wantsStandIn t = false by simpa using List.all_eq_true.1 hall t hm)⟩)
  runPlaces_goes
end Go.Proofs.YtnoghchcboiojaaGreatDoor
end
