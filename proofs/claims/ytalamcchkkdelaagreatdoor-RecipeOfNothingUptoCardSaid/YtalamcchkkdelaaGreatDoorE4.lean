/- Texts of the proofs over heraldlaw20, put together by a program (merge20.py): Ob1. -/
import Derived.Test.YtalamcchkkdelaaGreatDoorE3
import Derived.Test.YtalamcchkkdelaaGreatDoorCards
import Derived.Test.YtalamcchkkdelaaGreatDoorTie
import Derived.SevenTiedAt
set_option linter.unusedVariables false
set_option linter.unusedSimpArgs false
section
set_option maxRecDepth 100000
namespace Go.Proofs.YtalamcchkkdelaaGreatDoor
open Go.Ev
theorem nothing_row : Rows.RecipeOfNothingUptoSaid :=
 OpenClaim.holds_of_cond 4 Tryz.f4 rfl rfl rfl rfl rfl rfl rfl ⟨rfl,rfl,rfl,rfl,rfl⟩ rfl rfl rfl rfl rfl seat_fn4 Tryz.func4 seat_closed4
  (of_decide_eq_true (by kernel_rfl)) (by unfold Func.isWrapper;first | (rw [if_pos (by decide +kernel)];kernel_rfl) | (rw [if_neg (by decide +kernel)];exact ⟨rfl,rfl⟩))
  (fun os started H enc _ F => by rw [OpenClaim.pre_eq_preRow];exact nothing_lifted os started H enc F)
theorem nothing_plain (f : FuncId) (fn : Func) (hf : Tryz.pinned.checked.prog.funcNamed "herald/heraldlaw20.RecipeOfNothing" = some f) (hfn : Tryz.pinned.checked.prog.funcs[f]? = some fn) :
  true = Tryz.pinned.checked.prog.looks [] ∧ ∀ (j : Nat) t,fn.params[j]? = some t → Tryz.pinned.checked.prog.wantsStandIn t = false := by
 obtain rfl : f = 4 := Option.some.inj (seat_fn4.symm.trans hf) |>.symm
 obtain rfl : fn = Tryz.f4 := (Option.some.inj (Tryz.func4.symm.trans hfn)).symm
 refine ⟨by kernel_rfl,fun j t ht => ?_⟩
 rw [Tryz.params4] at ht
 obtain rfl : t = 24 := by simpa using Array.mem_of_getElem? ht
 exact (show Tryz.prog.wantsStandIn 24 = false by kernel_rfl)
theorem recipeOfNothing_holds : Rows.RecipeOfNothingUptoCardSaid :=
 Claim7.holds_tied_plain_at .later [] _ _ _ _ nothing_row (fun _ h => by cases h) (by kernel_rfl) (fun _ h => by cases h) recipeOfNothingUpto_row_tie rfl ⟨rfl,rfl⟩ (by kernel_rfl) rfl nothing_plain (by kernel_rfl)
end Go.Proofs.YtalamcchkkdelaaGreatDoor
end
