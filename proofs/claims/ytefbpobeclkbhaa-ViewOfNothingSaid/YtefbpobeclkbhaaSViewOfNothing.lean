/- The statement 'ViewOfNothing': the walk and the law joined. -/
import Derived.Test.YtefbpobeclkbhaaVc3
import Derived.Test.YtefbpobeclkbhaaVo0
set_option linter.unusedVariables false
set_option linter.unusedSimpArgs false
namespace Go.Proofs.Ytefbpobeclkbhaa
open Go.Ev Go.ChangeShapes Go.WideShapes Go.RowKit

set_option maxRecDepth 100000 in
theorem viewOfNothing_lifted (os : Os) (started : os.Started) (H : Type) (enc : TypeId × Value → H) :
    ReturnsInHanded {} Try.checked os 8 .any (Rows.viewOfNothingSpec.pre6 enc Try.prog Try.f8 Rows.viewOfNothingRow.domain false) (Rows.viewOfNothingSpec.post enc Try.prog Try.f8 false true false false) := by
  refine returnsInHanded_of_change (C := Try.checked) Try.own started (by kernel_rfl) Try.func8
    (ChangeSpec.witness6 (enc := enc) (C := Try.checked) false ⟨#[], #[.slice none 0 0], []⟩ 8 (by kernel_rfl) (by kernel_rfl) (by kernel_rfl) (by kernel_rfl)) ?_
  intro W base args ds gs before hval0 hW hcnd _
  have hval : ∀ (j : Nat) t v, Try.f8.params[j]? = some t → args[j]? = some v → Value.okWide Try.prog W .any base t v := hval0
  have hW' : DataW.Whole enc Try.prog Try.f8.params.toList Rows.viewOfNothingSpec.vars false W args.toList ds gs before := hW
  obtain ⟨p, q, hA, _, _, _, _⟩ := hW'
  rw [Try.params8] at hA hval
  obtain ⟨v0, d0, rfl, rfl, h0⟩ := trodAll_one hA
  obtain ⟨acts, sc⟩ := open_script (hval 0 34 v0 rfl rfl) h0
  obtain ⟨v, h', e, rfl⟩ := nothing_spec (F := 2000) (by omega) sc
  exact law_calls (P := Try.prog) (f := 8) (cf_ok _) hW Try.laidOut rfl rfl (by kernel_rfl) Try.underlying4 (by kernel_rfl) e

theorem viewOfNothing_holds : Rows.ViewOfNothingSaid :=
  OpenClaim.holds_of_wide 8 Try.f8 rfl rfl rfl rfl rfl rfl rfl ⟨rfl, rfl, rfl, rfl, rfl⟩ rfl rfl rfl rfl rfl (by kernel_rfl) Try.func8 (by kernel_rfl)
    (of_decide_eq_true (by kernel_rfl)) (by unfold Func.isWrapper; first | (rw [if_pos (by decide +kernel)]; kernel_rfl) | (rw [if_neg (by decide +kernel)]; exact ⟨rfl, rfl⟩))
    (fun os started H enc _ => viewOfNothing_lifted os started H enc)

end Go.Proofs.Ytefbpobeclkbhaa
