/- A script, handed in. -/
import Derived.Test.YtkkagpchcefidaaQo0
set_option linter.unusedVariables false
set_option linter.unusedSimpArgs false
namespace Go.Proofs.Ytkkagpchcefidaa
open Go.Ev Go.ChangeShapes Go.WideShapes Go.RowKit

section
variable {HT : Type} {enc : TypeId × Value → HT} {W : World} {base : Nat} {held : Bool}

set_option maxRecDepth 100000 in
theorem open_script {base' : Nat} {v : Value} {d : DataW HT} {p : List MemPlace} (hv : Value.okWide Try.prog W .any base' 22 v) (h : DataW.Trod enc Try.prog W base (fun _ => true) held 22 v d p) (hw : ∀ n ∈ DataW.weights Try.prog 22 d, n ≤ reachBytes) :
    ∃ script, SlR (below (absH W)) 5 (StpC (below (absH W))) (absH W) (absA W.heap.size v) script ∧ ∀ s ∈ script, s.Short := by
  have hc := open_argZ step_ty step_tb h hw
  have hna : ∀ cs, v ≠ .agg cs := by
    intro cs e
    subst e
    unfold Value.okWide at hv
    rw [Try.underlying22] at hv
    simp [Cell.okWide, Cell.ok, Try.underlying22] at hv
  have hcs : v.cells.toList = [v] := by
    cases v <;> first | rfl | exact absurd rfl (hna _)
  have habs : absA W.heap.size v = absV W.heap.size v := by
    cases v <;> first | rfl | exact absurd rfl (hna _)
  rw [hcs] at hc
  rw [habs]
  exact open_steps hc

end

theorem weights_at {HT : Type} {P : Program} {ts : List TypeId} {ds : List (DataW HT)} (h : (DataW.weightsEach P ts ds).all (· ≤ reachBytes) = true) (j : Nat) {t : TypeId} {d : DataW HT} (ht : ts[j]? = some t) (hd : ds[j]? = some d) : ∀ n ∈ DataW.weights P t d, n ≤ reachBytes := fun n hn => by
  simpa using List.all_eq_true.1 h n (DataW.weights_mem_each ht hd n hn)

end Go.Proofs.Ytkkagpchcefidaa
