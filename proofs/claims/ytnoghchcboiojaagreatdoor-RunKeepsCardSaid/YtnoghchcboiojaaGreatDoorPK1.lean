/- Texts of the proofs over heraldlaw18, put together by a program (merge18c.py): SaRunKeeps. -/
import Derived.Test.YtnoghchcboiojaaGreatDoorPE1
import Derived.Test.YtnoghchcboiojaaGreatDoorPK0
import Derived.ChangeMaps5
import Derived.WalkKit
set_option linter.unusedVariables false
set_option linter.unusedSimpArgs false
namespace Go.Proofs.YtnoghchcboiojaaGreatDoor
open Go.Ev Go.ChangeShapes Go.WideShapes Go.RowKit
open Go.ChangeMaps (open_string)
theorem runKeeps_in : InList Rows.runKeepsRow.laid := ⟨by kernel_rfl,by simp [Rows.runKeepsRow],by simp [Rows.runKeepsRow],by simp [Rows.runKeepsRow],by simp [Rows.runKeepsRow]⟩
set_option maxRecDepth 100000 in
theorem runKeeps_lifted (os : Os) (started : os.Started) (H : Type) (enc : TypeId × Value → H) (F : Stop.Interp) :
  ReturnsInLeavingWide { calm := true } Tryz.checked os 8 .any (fun w args => (Rows.runKeepsSpec.pre enc Tryz.prog Tryz.f8 [] false w args ∧ laidMetH Tryz.prog Rows.runKeepsRow.laid w) ∧ sizedMet enc Tryz.prog Tryz.f8 (OpenSpec.ofChange Rows.runKeepsSpec) false w args)
   ((OpenSpec.ofChange Rows.runKeepsSpec).postWith enc Tryz.prog Tryz.f8 F (outsideKept [.timePasses]) false true false) := by
 refine returnsInLeaving_of_change_and (C := Tryz.checked) (X := fun w _ => laidMetH Tryz.prog Rows.runKeepsRow.laid w) (fun _ _ _ hh h => h.of_heap hh) seat_own started (by kernel_rfl) Tryz.func8
  (witness_calm (enc := enc) (C := Tryz.checked) (os := os) (X := fun w _ => laidMetH Tryz.prog Rows.runKeepsRow.laid w) (World.laidAll Tryz.prog os Rows.runKeepsRow.laid) #[.string ⟨#[]⟩] 8 (World.laidAll_os _ _ _)
    (World.shaped_of_ZipB (by kernel_rfl) (by kernel_rfl)) (by kernel_rfl) (by kernel_rfl) (by kernel_rfl)
    (by rw [MakeChecks.laidMetH_plain _ _ _ (by kernel_rfl)];exact laidMet_laidAll _ (by kernel_rfl) (by kernel_rfl))) ?_
 intro W base args ds gs before hval0 hW _ hwt hL hsh _
 have hval : ∀ (j : Nat) t v,Tryz.f8.params[j]? = some t → args[j]? = some v → Value.okWide Tryz.prog W .any base t v := hval0
 have hW' : DataW.Whole enc Tryz.prog Tryz.f8.params.toList Rows.runKeepsSpec.vars false W args.toList ds gs before := hW
 have hwt' : (DataW.weightsEach Tryz.prog (Tryz.f8.params.toList ++ Rows.runKeepsSpec.plain.varTypes Tryz.prog) (ds ++ gs)).all (· ≤ reachBytes) = true := hwt
 obtain ⟨p,q,hA,_,_,_,_⟩ := hW'
 rw [Tryz.params8] at hA hval hwt'
 obtain ⟨v0,d0,rfl,rfl,h0⟩ := trodAll_one hA
 obtain ⟨⟨⟨s⟩⟩,rfl,rfl,rfl,_⟩ := open_string Tryz.underlying9 (hval 0 9 v0 rfl rfl) h0
 have h14 := size_of_shape hsh
 obtain ⟨v,h',e,rfl⟩ := law8 (F := 4398046511201) (glo_of runKeeps_in hL hsh) (gloR_of runKeeps_in hL) (by rw [absH_size];exact h14) (by decide) s
 exact law_calls_os (P := Tryz.prog) (f := 8) (cf_ok1 _) (vars_of runKeeps_in hL hsh h14) hW seat_laidOut rfl rfl (by kernel_rfl) Tryz.underlying4 (by kernel_rfl) e
end Go.Proofs.YtnoghchcboiojaaGreatDoor
