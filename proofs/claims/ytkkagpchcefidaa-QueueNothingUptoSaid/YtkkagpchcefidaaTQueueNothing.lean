/- The statement 'QueueNothing', where what is handed in is of bulk at most 1048576: the walk and the law joined. -/
import Derived.Test.YtkkagpchcefidaaMr12
set_option linter.unusedVariables false
set_option linter.unusedSimpArgs false
namespace Go.Proofs.Ytkkagpchcefidaa
open Go.Ev Go.ChangeShapes Go.WideShapes Go.RowKit

set_option maxRecDepth 100000 in
theorem queueNothing_lifted (os : Os) (started : os.Started) (H : Type) (enc : TypeId × Value → H) (F : Stop.Interp) :
    ReturnsInHanded {} Try.checked os 9 .any ((Rows.OpenSpec.upto Rows.queueNothingSpec).pre6 enc Try.prog Try.f9 Rows.queueNothingUptoRow.domain false) (((Rows.OpenSpec.upto Rows.queueNothingSpec).at F).post enc Try.prog Try.f9 false true false false) := by
  refine returnsInHanded_of_cond (C := Try.checked) (s := Rows.OpenSpec.upto Rows.queueNothingSpec) (k := Rows.uptoSmall) rfl Try.own started (by kernel_rfl) Try.func9
    (OpenSpec.witness (enc := enc) (C := Try.checked) (s := Rows.OpenSpec.upto Rows.queueNothingSpec) (k := Rows.uptoSmall) rfl false ⟨#[], #[.slice none 0 0], []⟩ 8 (by kernel_rfl) (by kernel_rfl) (by kernel_rfl)
      (x := ([.nil], [], [])) (by kernel_rfl) rfl (by kernel_rfl)) ?_
  intro W base args ds gs before hval0 hW hcnd hk _
  have hval : ∀ (j : Nat) t v, Try.f9.params[j]? = some t → args[j]? = some v → Value.okWide Try.prog W .any base t v := hval0
  have hW' : DataW.Whole enc Try.prog Try.f9.params.toList Rows.queueNothingSpec.vars false W args.toList ds gs before := hW
  have hb := bulks.bound hk
  obtain ⟨p, q, hA, _, _, _, _⟩ := hW'
  rw [Try.params9] at hA hval
  obtain ⟨v0, d0, rfl, rfl, h0⟩ := trodAll_one hA
  have hbs := bulks.part_le (l := [d0] ++ gs) (d := d0) (by simp)
  obtain ⟨script, sc, hs⟩ := openB_script (hval 0 22 v0 rfl rfl) h0 (Nat.le_trans hbs hb)
  obtain ⟨v, h', e, rfl⟩ := f9_spec (F := 17592186044450) (by omega)  sc hs
  exact law_calls (P := Try.prog) (f := 9) (cf_ok _) hW Try.laidOut rfl rfl (by kernel_rfl) Try.underlying4 (by kernel_rfl) e

theorem queueNothing_holds : Rows.QueueNothingUptoSaid :=
  OpenClaim.holds_of_cond 9 Try.f9 rfl rfl rfl rfl rfl rfl rfl ⟨rfl, rfl, rfl, rfl, rfl⟩ rfl rfl rfl rfl rfl (by kernel_rfl) Try.func9 (by kernel_rfl)
    (of_decide_eq_true (by kernel_rfl)) (by unfold Func.isWrapper; first | (rw [if_pos (by decide +kernel)]; kernel_rfl) | (rw [if_neg (by decide +kernel)]; exact ⟨rfl, rfl⟩))
    (fun os started H enc _ F => queueNothing_lifted os started H enc F)

end Go.Proofs.Ytkkagpchcefidaa
