/- heraldlaw18.RunTexts answers true for every input: the card of its row, of a calm outside and of the variables as the program's text lays them. (SbRunTexts) -/
import Derived.Test.YtnoghchcboiojaaGreatDoorT1
import Derived.Test.YtnoghchcboiojaaGreatDoorE1
import Derived.Test.YtnoghchcboiojaaGreatDoorE2
import Derived.Test.YtnoghchcboiojaaGreatDoorCards
import Derived.Test.YtnoghchcboiojaaGreatDoorTie
set_option linter.unusedVariables false
set_option linter.unusedSimpArgs false
section
set_option maxRecDepth 100000
namespace Go.Proofs.YtnoghchcboiojaaGreatDoor
open Go.Ev
theorem runTexts_inPlace : (Rows.runTextsRow.inPlace == Tryz.prog.inPlace 5) = true := by
 rw [inPlace_is seat_tab (reach_of 5)]
 kernel_rfl
theorem runTexts_unf : Tryz.prog.unfollowed 5 = true := by
 rw [unfollowed_is seat_tab (reach_of 5)]
 kernel_rfl
theorem runTexts_unfollowed : (Rows.runTextsRow.unfollowed == Tryz.prog.unfollowed 5) = true := by
 rw [runTexts_unf]
 kernel_rfl
theorem runTexts_recurses : (Rows.runTextsRow.recurses == Tryz.prog.recurses 5) = true := by
 rw [recurses_is runTexts_unf]
 kernel_rfl
theorem runTexts_named : (Rows.runTextsRow.named == Tryz.prog.varsNamed 5) = true := by
 rw [varsNamed_is seat_tab (reach_of 5)]
 kernel_rfl
theorem runTexts_closed : joinedFacts Tryz.prog 5 Tryz.f5 Rows.runTextsSpec Rows.runTextsRow = true := by
 unfold joinedFacts
 rw [runTexts_inPlace,runTexts_unfollowed,runTexts_recurses,runTexts_named,seat_laidOut,seat_mapsRowed,seat_plainKeys,seat_stopsHeard,seat_stops,seat_stopKnobs,seat_mayEnter]
 kernel_rfl
theorem runTexts_fn : Tryz.prog.funcNamed "herald/heraldlaw18.RunTexts" = some 5 := by kernel_rfl
theorem runTexts_go : Tryz.prog.goes 5 = true := by
 unfold Program.goes
 rw [runTexts_unf,seat_goes]
 exact Bool.or_true _
theorem runTexts_from : Tryz.prog.goesFrom "herald/heraldlaw18.RunTexts" = true := by
 unfold Program.goesFrom
 rw [runTexts_fn,Option.any_some]
 exact runTexts_go
theorem runTexts_goes : true = Rows.runTextsRow.goesBy Tryz.prog := by
 unfold OpenClaim.goesBy Program.goesAt
 rw [show Rows.runTextsRow.func = "herald/heraldlaw18.RunTexts" from rfl, runTexts_from]
 exact (Bool.true_or _).symm
theorem runTexts_row : Rows.RunTextsSaid :=
 OpenClaim.holds_of_wide_leaving_time 5 Tryz.f5 rfl rfl rfl rfl rfl rfl rfl ⟨rfl,rfl,rfl,rfl,rfl⟩ rfl rfl rfl rfl rfl runTexts_fn Tryz.func5 runTexts_closed
  (of_decide_eq_true (by kernel_rfl)) (by unfold Func.isWrapper;first | (rw [if_pos (by decide +kernel)];kernel_rfl) | (rw [if_neg (by decide +kernel)];exact ⟨rfl,rfl⟩))
  (fun os started H enc _ F => runTexts_lifted os started H enc F)
theorem runTexts_holds : Rows.RunTextsCardSaid :=
 card_goes [.data, .data, .data, .data, .sentinel, .sentinel, .data, .data, .data, .data, .widerDeep, .data, .pinned] true (true, "31a973c4003ff9841b3857ccab2673941dc47fe565176de8e5c12dc79d05f0b0") true runTexts_row (by kernel_rfl) runTexts_row_tie rfl ⟨rfl, rfl⟩ (by kernel_rfl) rfl
  (fun f fn hf hfn => by
    obtain rfl : f = 5 := Option.some.inj (runTexts_fn.symm.trans hf) |>.symm
    obtain rfl : fn = Tryz.f5 := (Option.some.inj (Tryz.func5.symm.trans hfn)).symm
    exact ⟨by kernel_rfl,fun j t ht => by
     rw [Tryz.params5] at ht
     have hm : t ∈ [9] := by simpa using Array.mem_of_getElem? ht
     have hall : ([9].all fun u => !Tryz.prog.wantsStandIn u) = true := by kernel_rfl
     exact (show Tryz.prog.wantsStandIn t = false by simpa using List.all_eq_true.1 hall t hm)⟩)
  runTexts_goes
end Go.Proofs.YtnoghchcboiojaaGreatDoor
end
