/- Texts of the proofs over heraldlaw20, put together by a program (merge20.py): Ofc. -/
import Derived.Test.YtalamcchkkdelaaGreatDoorRows
import Derived.OpenShut
import Derived.ProofKit
import Derived.KernelRfl
set_option linter.unusedVariables false
set_option linter.unusedSimpArgs false
section
set_option maxRecDepth 100000
namespace Go.Proofs.YtalamcchkkdelaaGreatDoor
open Go
theorem seat_laidOut : laidOutB Tryz.prog = true := by kernel_rfl
theorem seat_fn4 : Tryz.prog.funcNamed "herald/heraldlaw20.RecipeOfNothing" = some 4 := by kernel_rfl
theorem seat_closed4 : joinedFacts Tryz.prog 4 Tryz.f4 Rows.recipeOfNothingSpec Rows.recipeOfNothingUptoRow = true := by kernel_rfl
end Go.Proofs.YtalamcchkkdelaaGreatDoor
end
