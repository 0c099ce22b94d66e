/- Texts of the proofs over heraldlaw20, put together by a program (merge20.py): Nb0 Nb1 Nb2. -/
import Derived.Test.YtalamcchkkdelaaGreatDoorC9
import Derived.Test.YtalamcchkkdelaaGreatDoorProg
import Derived.Test.YtalamcchkkdelaaGreatDoorC10
set_option linter.unusedVariables false
set_option linter.unusedSimpArgs false
namespace Go.Proofs.YtalamcchkkdelaaGreatDoor
open Go.Ev
set_option maxRecDepth 100000
theorem a4_ok : compFn Tryz.prog Tryz.f4 [[0],[0,3],[0,14],[2],[0,4],[0,4,5],[0,4,5,6],[0,4,5,6,7],[0,4,5,6,7],[0,4,5,6,7,25],[0,4,5,6,7,9],[0,4,5,6,7,9,11],[0,4,5,6,7,53],[2],[0,4,5,6,7],[2]] = some a4 := by kernel_rfl
theorem a7_ok : compFn Tryz.prog Tryz.f7 [[],[1,2],[1,2,4],[1,26],[0],[1,5],[1,56],[0],[1],[1,6],[0]] = some a7 := by kernel_rfl
theorem a10_ok : compFn Tryz.prog Tryz.f10 [[2,3],[4]] = some a10 := by kernel_rfl
theorem a13_ok : compFn Tryz.prog Tryz.f13 [[0,4,5,6],[0,4,5,6,8],[0,4,5,6,8,9],[0,4,5,6,8,9,10],[0,4,5,6,8,9,10,15],[0,4,6,8,10],[0,4,6,8,9,10],[0,4,5,6,8,9,10,26],[0,4,6,8,10],[0,4,6,8,9,10],[0,4,5,6,8,9,10,37],[0,4,6,11],[0,4,6,11,12],[0,4,6,11,52],[6,7],[0,4,6,11,13],[0,4,6,8,11,13],[0,4,6,8,10,11,13],[0,4,6,8,9,10,13],[0,4,6,8,9,10],[4,6,8,9,10,14],[6,7]] = some a13 := by kernel_rfl
theorem a29_ok : compFn Tryz.prog Tryz.f29 [[0,1],[0,1,10],[4],[0,1,5],[0,1,5],[0,1,5,14],[0,1,5,25],[4],[0,1,5],[4]] = some a29 := by kernel_rfl
theorem a35_ok : compFn Tryz.prog Tryz.f35 [[2,3,4],[2,3,4,5],[2,3,4,5,10],[2,3,4,5,10,11],[4],[2,3,4,5,10,18],[2,3,4,27],[4],[4],[2,3,4,5,10,51],[2,3,4,5,62],[3,4,5],[4],[2,3,4,5,10,82],[3,4,6],[3,4,6,100],[4,6],[4],[2,3,4,10,105],[4],[3,4,113],[4],[4]] = some a35 := by kernel_rfl
theorem a36_ok : compFn Tryz.prog Tryz.f36 [[1],[1,6],[1,6,7],[2],[1,6,19],[2],[1,24],[1,3],[1,3],[1,3,31],[1,3,4],[1,3,42],[2],[1,3],[2]] = some a36 := by kernel_rfl
theorem a37_ok : compFn Tryz.prog Tryz.f37 [[1,2],[1,2],[1,2,3],[1,2,3,4],[1,2,3,4],[1,2,3,4,22],[1,2,3,4,5],[1,2,3,4,5],[1,2,3,4],[1,2,3,4],[1,2],[1,2],[1,2,6],[1,2,6,7],[1,2,6,7],[1,2,6,7,62],[1,2,6,7,8],[1,2,6,7,8],[1,2,6,7],[1,2,6,7],[1,2],[1,2,9],[1,2,9,10],[1,2,9,10],[1,2,9,10,93],[1,2,9,10,11],[1,2,9,10,11],[1,2,9,10],[1,2,9,10],[1,2],[2]] = some a37 := by kernel_rfl
theorem a38_ok : compFn Tryz.prog Tryz.f38 [[2,3],[2,3,61],[4],[2,3,5],[2,3,5],[2,3,5,67],[2,3,5,102],[4],[2,3,5],[2,3,6],[2,3,6],[2,3,6,109],[2,3,6,126],[4],[2,3,6],[2,3,7],[2,3,7],[2,3,7,132],[2,3,7,149],[4],[2,3,7],[2,3,8],[2,3,8],[2,3,8,155],[2,3,8,9],[2,3,8,9],[2,3,8,9,168],[2,3,8,9,193],[4],[2,3,8,9],[2,3,8],[4]] = some a38 := by kernel_rfl
theorem a40_ok : compFn Tryz.prog Tryz.f40 [[1],[1,2],[1,2],[1,2,13],[1,2],[1,2],[1,3],[1,3],[1,3,26],[1,3,4],[1,3,4],[1,3,4,38],[1,3,4],[1,3,4],[1,3],[1,3],[1,5],[1,5],[1,5,62],[1,5],[1,5],[1,6],[1,6],[1,6,77],[1,6],[1,6],[1,7],[1,7],[1,7,91],[1,7,8],[1,7,8],[1,7,8,104],[1,7,8],[1,7,8],[1,7]] = some a40 := by kernel_rfl
theorem a41_ok : compFn Tryz.prog Tryz.f41 [[0,1],[0,1,10],[4],[0,1,5],[0,1,5],[0,1,5,14],[0,1,5,80],[4],[0,1,5],[4]] = some a41 := by kernel_rfl
theorem a72_ok : compFn Tryz.prog Tryz.f72 [[2,3,4],[2,3,4,5],[2,3,4,5,14],[4,5],[4],[2,3,4,5,6],[2,3,4,5,6],[2,3,4,5,6,23],[2,3,4,5,6,7],[2,3,4,5,6,7,8],[2,3,4,5,6,7,8,47],[2,3,4,5,6,7,8],[2,3,4,5,6,7,8,58],[2,3,4,5,6,7,8],[2,3,4,5,6,8,67],[2,3,4,5,6,8],[2,3,4,5,6],[2,3,4,5,6],[3,4,5,87],[3,4,5],[4,5,94],[4,5],[4]] = some a72 := by kernel_rfl
theorem a74_ok : compFn Tryz.prog Tryz.f74 [[2,3,4],[2,3,4,5],[2,3,4,5,6],[2,3,4,5,6,22],[3,4,5,6,26],[4,6],[4],[2,3,4,5,6],[2,3,4,5,6,7],[2,3,4,5,6,7],[2,3,4,5,6,7,41],[2,3,4,5,6,7,8],[2,3,4,5,6,7,8,9],[2,3,4,5,6,7,8,9],[2,3,4,5,6,7,8,9,48],[2,3,4,5,6,7,8,9],[2,3,4,5,6,7,8,9],[2,3,4,5,6,7,61],[2,3,4,5,6,7,10],[2,3,4,5,6,7,10,73],[2,3,4,5,6,7,10],[2,3,4,5,6,7],[2,3,4,5,6,7],[4]] = some a74 := by kernel_rfl
theorem a75_ok : compFn Tryz.prog Tryz.f75 [[2,3,4],[2,3,4,5],[2,3,4,5,6],[2,3,4,5,6,21],[2,3,4,5,6],[4,6],[4],[2,3,4,5,6,7],[2,3,4,5,6,7],[2,3,4,5,6,7,36],[2,3,4,5,6,7,8],[2,3,4,5,6,7,8,9],[2,3,4,5,6,7,8,9,56],[2,3,4,5,6,7,9],[2,3,4,5,6,7,9,69],[2,3,4,5,6,7,9],[2,3,4,5,6,7],[2,3,4,5,6,7],[4]] = some a75 := by kernel_rfl
theorem a77_ok : compFn Tryz.prog Tryz.f77 [[1],[1,3],[1,3,4],[1,3,4],[1,3,4,11],[1,3,4],[1,3,4,30],[2],[1,3,4],[1,3,5],[1,3,5],[1,3,5,35],[1,3,5,6],[1,3,5,46],[2],[1,3,5],[1,3,48],[2],[2]] = some a77 := by kernel_rfl
theorem a78_ok : compFn Tryz.prog Tryz.f78 [[0],[0,3],[0,3],[0,3,8],[0,3,4],[0,3,4],[0,3,4,13],[0,3,4,24],[2],[0,3,4],[0,3],[2]] = some a78 := by kernel_rfl
theorem a79_ok : compFn Tryz.prog Tryz.f79 [[0,1],[0,1,10],[4],[0,1,5],[0,1,5],[0,1,5,14],[0,1,5,25],[4],[0,1,5],[4]] = some a79 := by kernel_rfl
theorem a119_ok : compFn Tryz.prog Tryz.f119 [[0],[0,3],[0,3],[0,3,7],[0,3,19],[2],[0,3],[2]] = some a119 := by kernel_rfl
theorem a108_ok : compFn Tryz.prog Tryz.f108 [[0],[0,6],[0],[0,3],[0,3,4],[0,3,4],[0,3,4,12],[0,3,4],[0,3,4],[0,3,4],[2]] = some a108 := by kernel_rfl
theorem a110_ok : compFn Tryz.prog Tryz.f110 [[0,1],[0,1,5],[0,1,5,12],[0,1,5],[4]] = some a110 := by kernel_rfl
theorem a112_ok : compFn Tryz.prog Tryz.f112 [[0,1],[0,1,6],[4],[4]] = some a112 := by kernel_rfl
end Go.Proofs.YtalamcchkkdelaaGreatDoor
namespace Go.Proofs.YtalamcchkkdelaaGreatDoor
open Go.Ev
set_option maxRecDepth 100000
theorem a12_ok : compFn Tryz.prog Tryz.f12 [[1,2],[2]] = some a12 := by kernel_rfl
theorem a32_ok : compFn Tryz.prog Tryz.f32 [[1,2],[1,2,16],[2,3],[1,2],[1,2],[1,2],[1,2],[1,2],[1,2,25],[1,2],[2,3]] = some a32 := by kernel_rfl
theorem a34_ok : compFn Tryz.prog Tryz.f34 [[1,2],[1,2,18],[2,3],[1,2],[1,2,23],[1,2],[2,3],[1,2],[1,2,4],[1,2,4,34],[2,3],[1,2,4,5],[2,3]] = some a34 := by kernel_rfl
theorem a39_ok : compFn Tryz.prog Tryz.f39 [[2,3,4],[2,3,4,11],[2,3,4,6],[2,3,4,6],[2,3,4,6,16],[2,3,4,6,40],[2,3,4],[4,5],[2,3,4,6],[2,3,4,67],[2,3,4],[2,3,4,82],[4,5],[2,3,4,85],[2,3,4,85,86],[2,3,4,85,86],[2,4,90],[2,4],[2,4],[2,4],[4,5],[2,4],[4,5],[2,3,4,85,101],[2,3,4,122],[2,3,4],[2,4],[2,3,4,85,127],[2,3,4,142],[4,5],[2,3,4,85,149],[2,3,4,178],[2,3,4],[2,4],[2,3,4,85,186],[2,3,4,200],[4,5],[2,3,4,206],[2,3,4,211],[2,4,7,8],[2,4,8],[2,4,227],[4,5],[4,5]] = some a39 := by kernel_rfl
theorem a76_ok : compFn Tryz.prog Tryz.f76 [[1],[1,34],[2],[1,43],[2],[1,3],[1,3],[1,3,48],[1,3,4],[1,3,4,77],[2],[1,3,4,92],[2],[1,3,4,105],[2],[1,3,119],[2],[1,3],[2]] = some a76 := by kernel_rfl
theorem a114_ok : compFn Tryz.prog Tryz.f114 [[0,1,2],[0,1,2,9],[6],[0,1,2,11],[6],[6]] = some a114 := by kernel_rfl
theorem a115_ok : compFn Tryz.prog Tryz.f115 [[0,1],[4]] = some a115 := by kernel_rfl
theorem a116_ok : compFn Tryz.prog Tryz.f116 [[0,1],[0,1,5],[0,1,5],[0,1,5,17],[0,1,5,6],[0,1,5,6,7],[0,1,5,6,7,30],[4],[0,1,5,33],[4],[0,1,5],[0,1,38],[4],[43],[4],[4]] = some a116 := by kernel_rfl
theorem a117_ok : compFn Tryz.prog Tryz.f117 [[0,1],[0,1,5],[0,1,5],[0,1,5,9],[0,1,5,18],[4],[0,1,5],[4]] = some a117 := by kernel_rfl
theorem a118_ok : compFn Tryz.prog Tryz.f118 [[0],[3],[2]] = some a118 := by kernel_rfl
theorem a149_ok : compFn Tryz.prog Tryz.f149 [[0,1],[1,5],[5,7],[5,7,24],[4],[5,7,9],[5,7,9],[5,7,9,28],[5,7,9,39],[4],[5,7,9],[4]] = some a149 := by kernel_rfl
theorem a150_ok : compFn Tryz.prog Tryz.f150 [[0],[0,4],[2],[2]] = some a150 := by kernel_rfl
theorem a151_ok : compFn Tryz.prog Tryz.f151 [[0],[4,5],[4,5,12],[2,3],[4,16],[2,3],[2,3]] = some a151 := by kernel_rfl
theorem a113_ok : compFn Tryz.prog Tryz.f113 [[0],[4],[2]] = some a113 := by kernel_rfl
theorem a26_ok : compFn Tryz.prog Tryz.f26 [[0],[0,9],[2,3],[0,11],[2,3],[0,18],[2,3],[4],[4,23],[2,3],[4,5],[4,5],[4,5,27],[4,5,6],[4,5,36],[2,3],[4,5],[2,3]] = some a26 := by kernel_rfl
theorem a63_ok : compFn Tryz.prog Tryz.f63 [[0],[0,3],[0,3,4],[0,3,4,5],[0,3,4,5],[0,3,4,5,9],[0,3,4,5,21],[0,3,5],[0,3,4,5],[0,3,4,5],[2]] = some a63 := by kernel_rfl
theorem a64_ok : compFn Tryz.prog Tryz.f64 [[0],[0,21],[2],[0,3],[0,3],[0,3,25],[0,3,4],[0,3,4,5],[0,3,66],[2],[0,3],[2]] = some a64 := by kernel_rfl
theorem a65_ok : compFn Tryz.prog Tryz.f65 [[0],[0,3],[0,3,4],[0,3,4],[0,3,4,8],[0,3,4],[0,3,4],[3,19],[2],[2]] = some a65 := by kernel_rfl
end Go.Proofs.YtalamcchkkdelaaGreatDoor
namespace Go.Proofs.YtalamcchkkdelaaGreatDoor
open Go.Ev
set_option maxRecDepth 100000
theorem a8_ok : compFn Tryz.prog Tryz.f8 [[1],[1,14],[2,3],[1,4,5],[1,4,22],[2,3],[1,4,44],[2,3],[1,4,7],[1,4,52],[2,3],[1,4,55],[1,4,9],[1,4,67],[2,3],[4,10],[10],[2,3]] = some a8 := by kernel_rfl
theorem a11_ok : compFn Tryz.prog Tryz.f11 [[0,2],[0,2,6],[2],[2,3],[2,3],[2]] = some a11 := by kernel_rfl
theorem a20_ok : compFn Tryz.prog Tryz.f20 [[0],[0,22],[2],[0,3],[0,3,30],[0,3],[0],[0],[2]] = some a20 := by kernel_rfl
theorem a21_ok : compFn Tryz.prog Tryz.f21 [[0,3],[0,3,8],[4],[0,3,5],[0,3,5,26],[0,3,5,26,27],[0,3,5,26,27],[0,3,5],[0,3,5,33],[0,3,5],[0,3,42],[4],[0,3,48],[0,3,48,49],[0,3,73],[0],[0,3,48,80],[0,3,104],[0],[0,3,48,109],[0,3,138],[0],[0,3,142],[0,157],[0],[4]] = some a21 := by kernel_rfl
theorem a22_ok : compFn Tryz.prog Tryz.f22 [[0,2],[2,4],[2,4,5],[2,3],[2,4,8],[2,3],[2,4,11],[2,3],[2,4,14],[2,3],[2,4,17],[2,3],[2,20],[2,3],[2,3]] = some a22 := by kernel_rfl
theorem a30_ok : compFn Tryz.prog Tryz.f30 [[0],[2]] = some a30 := by kernel_rfl
theorem a31_ok : compFn Tryz.prog Tryz.f31 [[0],[0,4],[2],[2]] = some a31 := by kernel_rfl
theorem a33_ok : compFn Tryz.prog Tryz.f33 [[0],[0,21],[2],[0],[0,32],[],[2],[0],[0],[0,52],[0],[2]] = some a33 := by kernel_rfl
theorem a45_ok : compFn Tryz.prog Tryz.f45 [[0,2],[0,2,16],[0,2],[]] = some a45 := by kernel_rfl
theorem a46_ok : compFn Tryz.prog Tryz.f46 [[0],[0,3],[3],[2]] = some a46 := by kernel_rfl
theorem a49_ok : compFn Tryz.prog Tryz.f49 [[0,1],[0,1,10],[4],[0,1,12,13],[0,1,12,13],[0,1,12,13,14],[0,1,5,12,13],[0,1,12,13,24],[4],[0,1,12,13],[4]] = some a49 := by kernel_rfl
theorem a50_ok : compFn Tryz.prog Tryz.f50 [[0,3],[0,3,4,5],[0,3,4,5],[0,3,4,5,34],[0,3,4,5],[0,3,4,5,59],[0,3,4,5],[0,3,4,5,74],[],[]] = some a50 := by kernel_rfl
theorem a53_ok : compFn Tryz.prog Tryz.f53 [[0],[2]] = some a53 := by kernel_rfl
theorem a59_ok : compFn Tryz.prog Tryz.f59 [[0,1],[4]] = some a59 := by kernel_rfl
theorem a87_ok : compFn Tryz.prog Tryz.f87 [[0,2],[]] = some a87 := by kernel_rfl
theorem a88_ok : compFn Tryz.prog Tryz.f88 [[0,3],[0,3,5],[0,3,5,12],[0,3,5,12],[0,3,12],[],[]] = some a88 := by kernel_rfl
theorem a100_ok : compFn Tryz.prog Tryz.f100 [[0,1],[4]] = some a100 := by kernel_rfl
theorem a134_ok : compFn Tryz.prog Tryz.f134 [[0],[0,4],[2],[2]] = some a134 := by kernel_rfl
theorem a137_ok : compFn Tryz.prog Tryz.f137 [[0,1],[5],[4]] = some a137 := by kernel_rfl
theorem a234_ok : compFn Tryz.prog Tryz.f234 [[]] = some a234 := by kernel_rfl
theorem a236_ok : compFn Tryz.prog Tryz.f236 [[]] = some a236 := by kernel_rfl
theorem a23_ok : compFn Tryz.prog Tryz.f23 [[0],[0,9],[2,3],[0,11],[2,3],[0,14],[2,3],[4],[4,20],[2,3],[4,21,22,23],[4,21,22,23],[4,21,22,23,24],[4,6,21,22,23],[4,21,22,23,29],[2,3],[4,21,22,23],[2,3]] = some a23 := by kernel_rfl
theorem a24_ok : compFn Tryz.prog Tryz.f24 [[0,1],[1,6,7],[1,6,7,16],[4,5],[6,18,19,20],[6,18,19,20],[6,18,19,20,21],[6,9,18,19,20],[6,9,18,19,20,26],[4,5],[6,9,18,19,20,29],[4,5],[6,18,19,20],[6,18,19,20],[4,5]] = some a24 := by kernel_rfl
theorem a61_ok : compFn Tryz.prog Tryz.f61 [[0],[0,18],[2],[0,20,21],[0,20,21],[0,20,21,22],[0,3,20,21],[0,20,21,35],[2],[0,20,21],[2]] = some a61 := by kernel_rfl
theorem a62_ok : compFn Tryz.prog Tryz.f62 [[0],[2]] = some a62 := by kernel_rfl
end Go.Proofs.YtalamcchkkdelaaGreatDoor
