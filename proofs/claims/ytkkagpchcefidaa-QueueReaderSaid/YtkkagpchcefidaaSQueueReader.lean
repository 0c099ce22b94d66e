/- The statement 'QueueReader': the walk and the law joined. -/
import Derived.Test.YtkkagpchcefidaaQf2
import Derived.Test.YtkkagpchcefidaaQo2
set_option linter.unusedVariables false
set_option linter.unusedSimpArgs false
namespace Go.Proofs.Ytkkagpchcefidaa
open Go.Ev Go.ChangeShapes Go.WideShapes Go.RowKit

set_option maxRecDepth 100000 in
theorem queueReader_lifted (os : Os) (started : os.Started) (H : Type) (enc : TypeId × Value → H) :
    ReturnsInHanded {} Try.checked os 12 .any (Rows.queueReaderSpec.pre6 enc Try.prog Try.f12 Rows.queueReaderRow.domain false) (Rows.queueReaderSpec.post enc Try.prog Try.f12 false true false false) := by
  refine returnsInHanded_of_change_sized (C := Try.checked) Try.own started (by kernel_rfl) Try.func12
    (ChangeSpec.witness6 (enc := enc) (C := Try.checked) false ⟨#[], #[.int .i64 0, .int .i64 0, .slice none 0 0, .slice none 0 0], []⟩ 8 (by kernel_rfl) (by kernel_rfl) (by kernel_rfl) (by kernel_rfl)) ?_
  intro W base args ds gs before hval0 hW hcnd hwt _
  have hval : ∀ (j : Nat) t v, Try.f12.params[j]? = some t → args[j]? = some v → Value.okWide Try.prog W .any base t v := hval0
  have hW' : DataW.Whole enc Try.prog Try.f12.params.toList Rows.queueReaderSpec.vars false W args.toList ds gs before := hW
  have hwt' : (DataW.weightsEach Try.prog (Try.f12.params.toList ++ Rows.queueReaderSpec.plain.varTypes Try.prog) (ds ++ gs)).all (· ≤ reachBytes) = true := hwt
  obtain ⟨p, q, hA, _, _, _, _⟩ := hW'
  rw [Try.params12] at hA hval hwt'
  obtain ⟨v0, v1, v2, v3, d0, d1, d2, d3, p0, p1, p2, p3, rfl, rfl, rfl, h0, h1, h2, h3⟩ := trodAll_four hA
  obtain ⟨n0, rfl, rfl, rfl, _⟩ := open_int Try.underlying3 (hval 0 3 v0 rfl rfl) h0
  obtain ⟨n1, rfl, rfl, rfl, _⟩ := open_int Try.underlying3 (hval 1 3 v1 rfl rfl) h1
  obtain ⟨script, sc, hs⟩ := open_script (hval 2 22 v2 rfl rfl) h2 (weights_at hwt' 2 rfl rfl)
  obtain ⟨takes, tk⟩ := open_takes (hval 3 72 v3 rfl rfl) h3 (weights_at hwt' 3 rfl rfl)
  obtain ⟨v, h', e, rfl⟩ := queueReader_spec (F := 17592186044450) (Nat.le_refl _) n0 n1 sc hs tk
  exact law_calls (P := Try.prog) (f := 12) (cf_ok _) hW Try.laidOut rfl rfl (by kernel_rfl) Try.underlying4 (by kernel_rfl) e

theorem queueReader_holds : Rows.QueueReaderSaid :=
  OpenClaim.holds_of_wide 12 Try.f12 rfl rfl rfl rfl rfl rfl rfl ⟨rfl, rfl, rfl, rfl, rfl⟩ rfl rfl rfl rfl rfl (by kernel_rfl) Try.func12 (by kernel_rfl)
    (of_decide_eq_true (by kernel_rfl)) (by unfold Func.isWrapper; first | (rw [if_pos (by decide +kernel)]; kernel_rfl) | (rw [if_neg (by decide +kernel)]; exact ⟨rfl, rfl⟩))
    (fun os started H enc _ => queueReader_lifted os started H enc)

end Go.Proofs.Ytkkagpchcefidaa
