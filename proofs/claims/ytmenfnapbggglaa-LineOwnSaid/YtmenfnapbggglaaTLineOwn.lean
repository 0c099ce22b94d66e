/- The statement 'LineOwn': the walk and the law joined. -/
import Derived.Test.YtmenfnapbggglaaM23
set_option linter.unusedVariables false
set_option linter.unusedSimpArgs false
namespace Go.Proofs.Ytmenfnapbggglaa
open Go.Ev Go.ChangeShapes Go.WideShapes Go.RowKit

set_option maxRecDepth 100000 in
theorem lineOwn_lifted (os : Os) (started : os.Started) (H : Type) (enc : TypeId × Value → H) :
    ReturnsInHanded {} Try.checked os 13 .any (Rows.lineOwnSpec.pre6 enc Try.prog Try.f13 Rows.lineOwnRow.domain false) (Rows.lineOwnSpec.post enc Try.prog Try.f13 false true false false) := by
  refine returnsInHanded_of_change_sized (C := Try.checked) Try.own started (by kernel_rfl) Try.func13
    (ChangeSpec.witness6 (enc := enc) (C := Try.checked) false ⟨#[], #[.slice none 0 0], []⟩ 8 (by kernel_rfl) (by kernel_rfl) (by kernel_rfl) (by kernel_rfl)) ?_
  intro W base args ds gs before hval0 hW hcnd hwt _
  have hval : ∀ (j : Nat) t v, Try.f13.params[j]? = some t → args[j]? = some v → Value.okWide Try.prog W .any base t v := hval0
  have hW' : DataW.Whole enc Try.prog Try.f13.params.toList Rows.lineOwnSpec.vars false W args.toList ds gs before := hW
  have hwt' : (DataW.weightsEach Try.prog (Try.f13.params.toList ++ Rows.lineOwnSpec.plain.varTypes Try.prog) (ds ++ gs)).all (· ≤ reachBytes) = true := hwt
  obtain ⟨p, q, hA, _, _, _, _⟩ := hW'
  rw [Try.params13] at hA hval hwt'
  obtain ⟨v0, d0, rfl, rfl, h0⟩ := trodAll_one hA
  obtain ⟨script, sc⟩ := open_script (hval 0 40 v0 rfl rfl) h0 (weights_at hwt' 0 rfl rfl)
  obtain ⟨v, h', e, rfl⟩ := f13_spec (F := 17592186044450) (by omega) sc
  exact law_calls (P := Try.prog) (f := 13) (cf_ok _) hW Try.laidOut rfl rfl (by kernel_rfl) Try.underlying4 (by kernel_rfl) e

theorem lineOwn_holds : Rows.LineOwnSaid :=
  OpenClaim.holds_of_wide 13 Try.f13 rfl rfl rfl rfl rfl rfl rfl ⟨rfl, rfl, rfl, rfl, rfl⟩ rfl rfl rfl rfl rfl (by kernel_rfl) Try.func13 (by kernel_rfl)
    (of_decide_eq_true (by kernel_rfl)) (by unfold Func.isWrapper; first | (rw [if_pos (by decide +kernel)]; kernel_rfl) | (rw [if_neg (by decide +kernel)]; exact ⟨rfl, rfl⟩))
    (fun os started H enc _ => lineOwn_lifted os started H enc)

end Go.Proofs.Ytmenfnapbggglaa
