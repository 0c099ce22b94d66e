/- The statement 'ViewIsNew': the walk and the law joined. -/
import Derived.Test.YtefbpobeclkbhaaVx12
import Derived.Test.YtefbpobeclkbhaaVo0
set_option linter.unusedVariables false
set_option linter.unusedSimpArgs false
namespace Go.Proofs.Ytefbpobeclkbhaa
open Go.Ev Go.ChangeShapes Go.WideShapes Go.RowKit

set_option maxRecDepth 100000 in
theorem viewIsNew_lifted (os : Os) (started : os.Started) (H : Type) (enc : TypeId × Value → H) :
    ReturnsInHanded {} Try.checked os 10 .any (Rows.viewIsNewSpec.pre6 enc Try.prog Try.f10 Rows.viewIsNewRow.domain false) (Rows.viewIsNewSpec.post enc Try.prog Try.f10 false true false false) := by
  refine returnsInHanded_of_change (C := Try.checked) Try.own started (by kernel_rfl) Try.func10
    (ChangeSpec.witness6 (enc := enc) (C := Try.checked) false ⟨#[], #[.int .i64 0, .slice none 0 0], []⟩ 8 (by kernel_rfl) (by kernel_rfl) (by kernel_rfl) (by kernel_rfl)) ?_
  intro W base args ds gs before hval0 hW hcnd _
  have hval : ∀ (j : Nat) t v, Try.f10.params[j]? = some t → args[j]? = some v → Value.okWide Try.prog W .any base t v := hval0
  have hW' : DataW.Whole enc Try.prog Try.f10.params.toList Rows.viewIsNewSpec.vars false W args.toList ds gs before := hW
  obtain ⟨p, q, hA, _, _, _, _⟩ := hW'
  rw [Try.params10] at hA hval
  obtain ⟨v0, v1, d0, d1, p0, p1, rfl, rfl, rfl, h0, h1⟩ := trodAll_two hA
  obtain ⟨n0, rfl, rfl, rfl, _⟩ := open_int Try.underlying3 (hval 0 3 v0 rfl rfl) h0
  obtain ⟨acts, sc⟩ := open_script (hval 1 34 v1 rfl rfl) h1
  obtain ⟨v, h', e, rfl⟩ := isNew_spec (F := 2000) (by omega) (by omega) sc n0
  exact law_calls (P := Try.prog) (f := 10) (cf_ok _) hW Try.laidOut rfl rfl (by kernel_rfl) Try.underlying4 (by kernel_rfl) e

theorem viewIsNew_holds : Rows.ViewIsNewSaid :=
  OpenClaim.holds_of_wide 10 Try.f10 rfl rfl rfl rfl rfl rfl rfl ⟨rfl, rfl, rfl, rfl, rfl⟩ rfl rfl rfl rfl rfl (by kernel_rfl) Try.func10 (by kernel_rfl)
    (of_decide_eq_true (by kernel_rfl)) (by unfold Func.isWrapper; first | (rw [if_pos (by decide +kernel)]; kernel_rfl) | (rw [if_neg (by decide +kernel)]; exact ⟨rfl, rfl⟩))
    (fun os started H enc _ => viewIsNew_lifted os started H enc)

end Go.Proofs.Ytefbpobeclkbhaa
