/- Texts of the proofs over heraldlaw18, put together by a program (merge18c.py): Sx8. -/
import Derived.Test.YtnoghchcboiojaaGreatDoorRows
import GoSem.ClaimGoes
import Derived.KernelRfl
set_option linter.unusedVariables false
set_option linter.unusedSimpArgs false
section
set_option maxRecDepth 100000
namespace Go.Proofs.YtnoghchcboiojaaGreatDoor
open Go
theorem seat_mayEnter : Tryz.prog.mayEnter = true := by kernel_rfl
theorem seat_goes : Tryz.prog.funcs.any Func.goes = true := by kernel_rfl
end Go.Proofs.YtnoghchcboiojaaGreatDoor
end
