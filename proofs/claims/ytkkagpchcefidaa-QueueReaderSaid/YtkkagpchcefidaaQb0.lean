/- The library's lock in this program; the table of the seat's functions; the calls of the evaluator are the program's. -/
import Derived.Test.YtkkagpchcefidaaQa1
set_option linter.unusedSimpArgs false
set_option linter.unusedVariables false
namespace Go.Proofs.Ytkkagpchcefidaa
open Go.Ev

abbrev muLink : Go.Conc.Locks.MuLink := { lock := 59, unlock := 60, ilock := 68, iunlock := 69, lockSlow := 75, unlockSlow := 78, disable := 71, enable := 73, acquire := 74, relMerge := 76, cas32 := 72, add32 := 77, tMutex := 57, tIMutex := 55, tPMutex := 130, tPIMutex := 132, tPI32 := 134, tUP := 136, tNoCopy := 52, tU32 := 53 }
theorem muLib : Go.Conc.Locks.MuLib Try.prog muLink :=
  ⟨Try.func59, Try.func60, Try.func68, Try.func69, Try.func71, Try.func73, Try.func74, Try.func76, Try.func72, Try.func77, Try.underlying55, Try.runUnderlying55, Try.sizeOf55, Try.isAgg55, Try.zeroValue55, Try.underlying57, Try.runUnderlying57, Try.sizeOf57, Try.isAgg57, Try.zeroValue57, Try.underlying130, Try.runUnderlying130, Try.sizeOf130, Try.isAgg130, Try.zeroValue130, Try.underlying132, Try.runUnderlying132, Try.sizeOf132, Try.isAgg132, Try.zeroValue132, Try.underlying134, Try.runUnderlying134, Try.sizeOf134, Try.isAgg134, Try.zeroValue134, Try.underlying136, Try.runUnderlying136, Try.sizeOf136, Try.isAgg136, Try.zeroValue136, Try.underlying52, Try.runUnderlying52, Try.sizeOf52, Try.isAgg52, Try.zeroValue52, Try.underlying21, Try.runUnderlying21, Try.sizeOf21, Try.isAgg21, Try.zeroValue21, (by kernel_rfl)⟩

def X : FuncId → Option (List Value → H → Res)
  | 59 => some (flipX 0 1)
  | 60 => some (flipX 1 0)
  | _ => none
def XD : FuncId → Option (List Value → H → Res)
  | 60 => some (flipX 1 0)
  | _ => none

theorem X_ok : XOk Try.prog X := by
  intro f x h
  unfold X at h
  split at h <;> cases h
  · exact lock_ok muLib
  · exact unlock_ok muLib

theorem XD_ok : CallDOk Try.prog (cfX XD) := by
  intro f args h r h' e
  have e' : (fun g args h => if g = muLink.unlock then flipX 1 0 args h else none : CF) f args h = some (r, h') := by
    unfold cfX XD at e
    split at e
    · rename_i x hx
      split at hx <;> cases hx
      simpa using e
    · cases e
  exact unlock_dok muLib f args h r h' e'


def tbl : FuncId → Option AFn
  | 3 => some a3
  | 4 => some a4
  | 5 => some a5
  | 6 => some a6
  | 7 => some a7
  | 8 => some a8
  | 9 => some a9
  | 10 => some a10
  | 11 => some a11
  | 12 => some a12
  | 13 => some a13
  | 14 => some a14
  | 15 => some a15
  | 16 => some a16
  | 17 => some a17
  | 18 => some a18
  | 19 => some a19
  | 20 => some a20
  | 21 => some a21
  | 22 => some a22
  | 23 => some a23
  | 24 => some a24
  | 25 => some a25
  | 26 => some a26
  | 27 => some a27
  | 28 => some a28
  | 29 => some a29
  | 30 => some a30
  | 31 => some a31
  | 32 => some a32
  | 33 => some a33
  | 34 => some a34
  | 35 => some a35
  | 36 => some a36
  | 37 => some a37
  | 38 => some a38
  | 39 => some a39
  | 40 => some a40
  | 41 => some a41
  | 42 => some a42
  | 43 => some a43
  | 44 => some a44
  | 45 => some a45
  | 46 => some a46
  | 47 => some a47
  | 48 => some a48
  | 49 => some a49
  | 50 => some a50
  | 51 => some a51
  | 52 => some a52
  | 53 => some a53
  | 54 => some a54
  | 55 => some a55
  | 56 => some a56
  | 57 => some a57
  | 58 => some a58
  | 61 => some a61
  | 62 => some a62
  | 63 => some a63
  | 64 => some a64
  | 65 => some a65
  | 66 => some a66
  | 67 => some a67
  | 70 => some a70
  | _ => none

theorem tbl_ok : TblOk Try.prog tbl := by
  intro f af h
  unfold tbl at h
  split at h <;> cases h
  · exact ⟨_, _, Try.func3, a3_ok⟩
  · exact ⟨_, _, Try.func4, a4_ok⟩
  · exact ⟨_, _, Try.func5, a5_ok⟩
  · exact ⟨_, _, Try.func6, a6_ok⟩
  · exact ⟨_, _, Try.func7, a7_ok⟩
  · exact ⟨_, _, Try.func8, a8_ok⟩
  · exact ⟨_, _, Try.func9, a9_ok⟩
  · exact ⟨_, _, Try.func10, a10_ok⟩
  · exact ⟨_, _, Try.func11, a11_ok⟩
  · exact ⟨_, _, Try.func12, a12_ok⟩
  · exact ⟨_, _, Try.func13, a13_ok⟩
  · exact ⟨_, _, Try.func14, a14_ok⟩
  · exact ⟨_, _, Try.func15, a15_ok⟩
  · exact ⟨_, _, Try.func16, a16_ok⟩
  · exact ⟨_, _, Try.func17, a17_ok⟩
  · exact ⟨_, _, Try.func18, a18_ok⟩
  · exact ⟨_, _, Try.func19, a19_ok⟩
  · exact ⟨_, _, Try.func20, a20_ok⟩
  · exact ⟨_, _, Try.func21, a21_ok⟩
  · exact ⟨_, _, Try.func22, a22_ok⟩
  · exact ⟨_, _, Try.func23, a23_ok⟩
  · exact ⟨_, _, Try.func24, a24_ok⟩
  · exact ⟨_, _, Try.func25, a25_ok⟩
  · exact ⟨_, _, Try.func26, a26_ok⟩
  · exact ⟨_, _, Try.func27, a27_ok⟩
  · exact ⟨_, _, Try.func28, a28_ok⟩
  · exact ⟨_, _, Try.func29, a29_ok⟩
  · exact ⟨_, _, Try.func30, a30_ok⟩
  · exact ⟨_, _, Try.func31, a31_ok⟩
  · exact ⟨_, _, Try.func32, a32_ok⟩
  · exact ⟨_, _, Try.func33, a33_ok⟩
  · exact ⟨_, _, Try.func34, a34_ok⟩
  · exact ⟨_, _, Try.func35, a35_ok⟩
  · exact ⟨_, _, Try.func36, a36_ok⟩
  · exact ⟨_, _, Try.func37, a37_ok⟩
  · exact ⟨_, _, Try.func38, a38_ok⟩
  · exact ⟨_, _, Try.func39, a39_ok⟩
  · exact ⟨_, _, Try.func40, a40_ok⟩
  · exact ⟨_, _, Try.func41, a41_ok⟩
  · exact ⟨_, _, Try.func42, a42_ok⟩
  · exact ⟨_, _, Try.func43, a43_ok⟩
  · exact ⟨_, _, Try.func44, a44_ok⟩
  · exact ⟨_, _, Try.func45, a45_ok⟩
  · exact ⟨_, _, Try.func46, a46_ok⟩
  · exact ⟨_, _, Try.func47, a47_ok⟩
  · exact ⟨_, _, Try.func48, a48_ok⟩
  · exact ⟨_, _, Try.func49, a49_ok⟩
  · exact ⟨_, _, Try.func50, a50_ok⟩
  · exact ⟨_, _, Try.func51, a51_ok⟩
  · exact ⟨_, _, Try.func52, a52_ok⟩
  · exact ⟨_, _, Try.func53, a53_ok⟩
  · exact ⟨_, _, Try.func54, a54_ok⟩
  · exact ⟨_, _, Try.func55, a55_ok⟩
  · exact ⟨_, _, Try.func56, a56_ok⟩
  · exact ⟨_, _, Try.func57, a57_ok⟩
  · exact ⟨_, _, Try.func58, a58_ok⟩
  · exact ⟨_, _, Try.func61, a61_ok⟩
  · exact ⟨_, _, Try.func62, a62_ok⟩
  · exact ⟨_, _, Try.func63, a63_ok⟩
  · exact ⟨_, _, Try.func64, a64_ok⟩
  · exact ⟨_, _, Try.func65, a65_ok⟩
  · exact ⟨_, _, Try.func66, a66_ok⟩
  · exact ⟨_, _, Try.func67, a67_ok⟩
  · exact ⟨_, _, Try.func70, a70_ok⟩

abbrev cf (F : Nat) : CF := evFn X XD tbl F

theorem cf_ok (F : Nat) : CallOk Try.prog (cf F) := evFn_sound (Checked.mixed Try.checked) tbl_ok X_ok XD_ok F

theorem cf_step {F : Nat} {f : FuncId} {args : List Value} {h : H} {a : AFn} (hX : X f = none) (ht : tbl f = some a) (hl : args.length ≤ a.ntmps) :
    cf (F + 1) f args h = evC F (cf F) a.body (endK (cfX XD) a.results) noK (endK (cfX XD) a.results) (envOf 0 args) h [] := by
  simp only [cf, evFn, hX, ht, if_pos hl]
  rfl

theorem cf_X {F : Nat} {f : FuncId} {args : List Value} {h : H} {x : List Value → H → Res} (hX : X f = some x) : cf (F + 1) f args h = x args h := by
  simp only [cf, evFn, hX]

end Go.Proofs.Ytkkagpchcefidaa

