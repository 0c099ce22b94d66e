/- The table of the seat's functions, and what the small ones answer. -/
import Derived.Test.YtmenfnapbggglaaLa0
import Derived.Test.YtmenfnapbggglaaEv17
set_option linter.unusedSimpArgs false
set_option linter.unusedVariables false
namespace Go.Proofs.Ytmenfnapbggglaa
open Go.Ev

def tbl : FuncId → Option AFn
  | 3 => some a3 | 14 => some a14 | 15 => some a15 | 16 => some a16 | 17 => some a17 | 18 => some a18 | 19 => some a19 | 20 => some a20 | 21 => some a21 | 22 => some a22 | 34 => some a34 | 35 => some a35
  | _ => none

theorem tbl_ok : TblOk Try.prog tbl := by
  intro f af h
  unfold tbl at h
  split at h <;> cases h
  · exact ⟨_, _, Try.func3, a3_ok⟩
  · exact ⟨_, _, Try.func14, a14_ok⟩
  · exact ⟨_, _, Try.func15, a15_ok⟩
  · exact ⟨_, _, Try.func16, a16_ok⟩
  · exact ⟨_, _, Try.func17, a17_ok⟩
  · exact ⟨_, _, Try.func18, a18_ok⟩
  · exact ⟨_, _, Try.func19, a19_ok⟩
  · exact ⟨_, _, Try.func20, a20_ok⟩
  · exact ⟨_, _, Try.func21, a21_ok⟩
  · exact ⟨_, _, Try.func22, a22_ok⟩
  · exact ⟨_, _, Try.func34, a34_ok⟩
  · exact ⟨_, _, Try.func35, a35_ok⟩

abbrev cf (F : Nat) : CF := evFn (fun _ => none) tbl F

theorem cf_ok (F : Nat) : CallOk Try.prog (cf F) :=
  evFn_sound (Checked.mixed Try.checked) tbl_ok (by intro f x h; cases h) (fun f args h r h' e => by simp [cfX] at e) F

theorem cf_step {F : Nat} {f : FuncId} {args : List Value} {h : H} {a : AFn} (ht : tbl f = some a) (hl : args.length ≤ a.ntmps) :
    cf (F + 1) f args h = evC F (cf F) a.body (endK (cfX fun _ => none) a.results) noK (endK (cfX fun _ => none) a.results) (envOf 0 args) h [] := by
  simp only [cf, evFn, ht, if_pos hl]
  rfl

theorem num_eq (F : Nat) (n : Int) (h : H) : cf (F + 1) 20 [.int .i64 n] h = some (.int .i64 n, h) := by
  rw [cf_step (a := a20) rfl (by simp [a20])]
  simp [a20, r20_0, r20_1]

theorem new_eq (F : Nat) (h : H) : cf (F + 1) 15 [] h = some (.pointer (some ⟨h.size, 0, none⟩), Ev.newRow h [.map none, .int .i64 0] 0 []) := by
  rw [cf_step (a := a15) rfl (by simp [a15])]
  simp [a15, r15_0, r15_1, partsOf, fillL]

end Go.Proofs.Ytmenfnapbggglaa
