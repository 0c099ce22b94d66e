/- Texts of the proofs over heraldlaw18, put together by a program (merge18c.py): Rq1. -/
import Derived.Test.YtnoghchcboiojaaGreatDoorProg
import Derived.WalkKit
import Derived.BigCall
import Derived.Deep.RegionWith
set_option linter.unusedVariables false
set_option linter.unusedSimpArgs false
section
set_option maxRecDepth 100000
namespace Go.Proofs
open Go.RowKit
namespace YtnoghchcboiojaaGreatDoor
def fieldCells (b : Nat) : Array Value := #[.string { data := #[110,111,100,101,115] },.pointer (some ⟨b,0,none⟩),.string { data := #[99,108,105,101,110,116,115] },.pointer (some ⟨b,1,none⟩),
 .string { data := #[113,117,101,117,101] },.pointer (some ⟨b,2,none⟩),.string { data := #[114,105,110,103] },.pointer (some ⟨b,3,none⟩),
 .string { data := #[119,105,110,100,111,119] },.pointer (some ⟨b,4,none⟩),.string { data := #[108,101,97,115,101] },.pointer (some ⟨b,5,none⟩)]
theorem fields_k (b : Nat) (w : World) : Calls Tryz.prog 30 #[.pointer (some ⟨b,0,none⟩)] w fun e w' => e = .returned (.slice (some ⟨w.heap.size,0,none⟩) 6 6) ∧ w' = (w.alloc (.cells (fieldCells b) 81)).drew := by
 have u76 := run_underlying Tryz.underlying76;have u81 := run_underlying Tryz.underlying81;have u23 := run_underlying Tryz.underlying23;have u78 := run_underlying Tryz.underlying78;have u79 := run_underlying Tryz.underlying79;have u9 := run_underlying Tryz.underlying9;have u3 := run_underlying Tryz.underlying3
 go_enter Tryz.func30,Tryz.ntmps30
 go_wp2
 go_region
 go_wp2
 go_ret
 exact ⟨rfl,rfl⟩
end YtnoghchcboiojaaGreatDoor
end Go.Proofs
end
