/- The statement 'QueueOwn': the walk and the law joined. -/
import Derived.Test.YtkkagpchcefidaaW21
set_option linter.unusedVariables false
set_option linter.unusedSimpArgs false
namespace Go.Proofs.Ytkkagpchcefidaa
open Go.Ev Go.ChangeShapes Go.WideShapes Go.RowKit

set_option maxRecDepth 100000 in
theorem queueOwn_lifted (os : Os) (started : os.Started) (H : Type) (enc : TypeId × Value → H) :
    ReturnsInHanded {} Try.checked os 13 .any (Rows.queueOwnSpec.pre6 enc Try.prog Try.f13 Rows.queueOwnRow.domain false) (Rows.queueOwnSpec.post enc Try.prog Try.f13 false true false false) := by
  refine returnsInHanded_of_change_sized (C := Try.checked) Try.own started (by kernel_rfl) Try.func13
    (ChangeSpec.witness6 (enc := enc) (C := Try.checked) false ⟨#[], #[.int .i64 0, .int .i64 0, .slice none 0 0], []⟩ 8 (by kernel_rfl) (by kernel_rfl) (by kernel_rfl) (by kernel_rfl)) ?_
  intro W base args ds gs before hval0 hW hcnd hwt _
  have hval : ∀ (j : Nat) t v, Try.f13.params[j]? = some t → args[j]? = some v → Value.okWide Try.prog W .any base t v := hval0
  have hW' : DataW.Whole enc Try.prog Try.f13.params.toList Rows.queueOwnSpec.vars false W args.toList ds gs before := hW
  have hwt' : (DataW.weightsEach Try.prog (Try.f13.params.toList ++ Rows.queueOwnSpec.plain.varTypes Try.prog) (ds ++ gs)).all (· ≤ reachBytes) = true := hwt
  obtain ⟨p, q, hA, _, _, _, _⟩ := hW'
  rw [Try.params13] at hA hval hwt'
  obtain ⟨v0, v1, v2, d0, d1, d2, p0, p1, p2, rfl, rfl, rfl, h0, h1, h2⟩ := trodAll_three hA
  obtain ⟨n0, rfl, rfl, rfl, _⟩ := open_int Try.underlying3 (hval 0 3 v0 rfl rfl) h0
  obtain ⟨n1, rfl, rfl, rfl, _⟩ := open_int Try.underlying3 (hval 1 3 v1 rfl rfl) h1
  obtain ⟨script, sc, hs⟩ := open_script (hval 2 22 v2 rfl rfl) h2 (weights_at hwt' 2 rfl rfl)
  obtain ⟨v, h', e, rfl⟩ := queueOwn_spec (F := 17592186044470) (Nat.le_refl _) n0 n1 sc
  exact law_calls (P := Try.prog) (f := 13) (cf_ok _) hW Try.laidOut rfl rfl (by kernel_rfl) Try.underlying4 (by kernel_rfl) e

theorem queueOwn_holds : Rows.QueueOwnSaid :=
  OpenClaim.holds_of_wide 13 Try.f13 rfl rfl rfl rfl rfl rfl rfl ⟨rfl, rfl, rfl, rfl, rfl⟩ rfl rfl rfl rfl rfl (by kernel_rfl) Try.func13 (by kernel_rfl)
    (of_decide_eq_true (by kernel_rfl)) (by unfold Func.isWrapper; first | (rw [if_pos (by decide +kernel)]; kernel_rfl) | (rw [if_neg (by decide +kernel)]; exact ⟨rfl, rfl⟩))
    (fun os started H enc _ => queueOwn_lifted os started H enc)

end Go.Proofs.Ytkkagpchcefidaa
