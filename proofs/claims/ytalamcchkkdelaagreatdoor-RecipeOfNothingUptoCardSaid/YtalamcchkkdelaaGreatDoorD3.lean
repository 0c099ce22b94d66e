/- Texts of the proofs over heraldlaw20, put together by a program (merge20.py): Nc1. -/
import Derived.Test.YtalamcchkkdelaaGreatDoorD2
import Derived.Test.YtalamcchkkdelaaGreatDoorD0
set_option linter.unusedVariables false
set_option linter.unusedSimpArgs false
section
set_option maxRecDepth 100000
namespace Go.Proofs
open Go.Ev Go.RowKit
namespace YtalamcchkkdelaaGreatDoor
theorem tbl_ok : TblOk Tryz.prog tbl := by
 intro f af h
 unfold tbl at h
 split at h <;> cases h
 ·exact ⟨_,_,Tryz.func4,a4_ok⟩
 ·exact ⟨_,_,Tryz.func7,a7_ok⟩
 ·exact ⟨_,_,Tryz.func8,a8_ok⟩
 ·exact ⟨_,_,Tryz.func10,a10_ok⟩
 ·exact ⟨_,_,Tryz.func11,a11_ok⟩
 ·exact ⟨_,_,Tryz.func12,a12_ok⟩
 ·exact ⟨_,_,Tryz.func13,a13_ok⟩
 ·exact ⟨_,_,Tryz.func20,a20_ok⟩
 ·exact ⟨_,_,Tryz.func21,a21_ok⟩
 ·exact ⟨_,_,Tryz.func22,a22_ok⟩
 ·exact ⟨_,_,Tryz.func23,a23_ok⟩
 ·exact ⟨_,_,Tryz.func24,a24_ok⟩
 ·exact ⟨_,_,Tryz.func26,a26_ok⟩
 ·exact ⟨_,_,Tryz.func29,a29_ok⟩
 ·exact ⟨_,_,Tryz.func30,a30_ok⟩
 ·exact ⟨_,_,Tryz.func31,a31_ok⟩
 ·exact ⟨_,_,Tryz.func32,a32_ok⟩
 ·exact ⟨_,_,Tryz.func33,a33_ok⟩
 ·exact ⟨_,_,Tryz.func34,a34_ok⟩
 ·exact ⟨_,_,Tryz.func35,a35_ok⟩
 ·exact ⟨_,_,Tryz.func36,a36_ok⟩
 ·exact ⟨_,_,Tryz.func37,a37_ok⟩
 ·exact ⟨_,_,Tryz.func38,a38_ok⟩
 ·exact ⟨_,_,Tryz.func39,a39_ok⟩
 ·exact ⟨_,_,Tryz.func40,a40_ok⟩
 ·exact ⟨_,_,Tryz.func41,a41_ok⟩
 ·exact ⟨_,_,Tryz.func45,a45_ok⟩
 ·exact ⟨_,_,Tryz.func46,a46_ok⟩
 ·exact ⟨_,_,Tryz.func49,a49_ok⟩
 ·exact ⟨_,_,Tryz.func50,a50_ok⟩
 ·exact ⟨_,_,Tryz.func53,a53_ok⟩
 ·exact ⟨_,_,Tryz.func59,a59_ok⟩
 ·exact ⟨_,_,Tryz.func61,a61_ok⟩
 ·exact ⟨_,_,Tryz.func62,a62_ok⟩
 ·exact ⟨_,_,Tryz.func63,a63_ok⟩
 ·exact ⟨_,_,Tryz.func64,a64_ok⟩
 ·exact ⟨_,_,Tryz.func65,a65_ok⟩
 ·exact ⟨_,_,Tryz.func72,a72_ok⟩
 ·exact ⟨_,_,Tryz.func74,a74_ok⟩
 ·exact ⟨_,_,Tryz.func75,a75_ok⟩
 ·exact ⟨_,_,Tryz.func76,a76_ok⟩
 ·exact ⟨_,_,Tryz.func77,a77_ok⟩
 ·exact ⟨_,_,Tryz.func78,a78_ok⟩
 ·exact ⟨_,_,Tryz.func79,a79_ok⟩
 ·exact ⟨_,_,Tryz.func87,a87_ok⟩
 ·exact ⟨_,_,Tryz.func88,a88_ok⟩
 ·exact ⟨_,_,Tryz.func100,a100_ok⟩
 ·exact ⟨_,_,Tryz.func108,a108_ok⟩
 ·exact ⟨_,_,Tryz.func110,a110_ok⟩
 ·exact ⟨_,_,Tryz.func112,a112_ok⟩
 ·exact ⟨_,_,Tryz.func113,a113_ok⟩
 ·exact ⟨_,_,Tryz.func114,a114_ok⟩
 ·exact ⟨_,_,Tryz.func115,a115_ok⟩
 ·exact ⟨_,_,Tryz.func116,a116_ok⟩
 ·exact ⟨_,_,Tryz.func117,a117_ok⟩
 ·exact ⟨_,_,Tryz.func118,a118_ok⟩
 ·exact ⟨_,_,Tryz.func119,a119_ok⟩
 ·exact ⟨_,_,Tryz.func134,a134_ok⟩
 ·exact ⟨_,_,Tryz.func137,a137_ok⟩
 ·exact ⟨_,_,Tryz.func149,a149_ok⟩
 ·exact ⟨_,_,Tryz.func150,a150_ok⟩
 ·exact ⟨_,_,Tryz.func151,a151_ok⟩
 ·exact ⟨_,_,Tryz.func234,a234_ok⟩
 ·exact ⟨_,_,Tryz.func236,a236_ok⟩
theorem XD_ok : CallDOk Tryz.prog (cfX XD) := by
 intro f args h m m' h' e
 unfold cfX XD at e
 cases e
theorem X_ok : XOk Tryz.prog X := by
 intro f x hx
 unfold X at hx
 split at hx <;> first
  | (cases hx;exact split_ok)
  | (cases hx;exact join_ok)
  | (simp at hx)
theorem cf_ok (F : Nat) : CallOk Tryz.prog (cf F) := evFn_sound splitL.mixed tbl_ok X_ok XD_ok F
end YtalamcchkkdelaaGreatDoor
end Go.Proofs
end
