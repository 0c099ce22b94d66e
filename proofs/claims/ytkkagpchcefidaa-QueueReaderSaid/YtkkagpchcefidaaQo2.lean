/- Takes, handed in. -/
import Derived.Test.YtkkagpchcefidaaQo1
import Derived.Test.YtkkagpchcefidaaQf1
set_option linter.unusedVariables false
set_option linter.unusedSimpArgs false
namespace Go.Proofs.Ytkkagpchcefidaa
open Go.Ev Go.ChangeShapes Go.WideShapes Go.RowKit

def takeT : Ty := .struct [tI, tI, .bool]
theorem take_ty : tyOk Try.prog (.slice takeT) 72 = true := by kernel_rfl
theorem take_tb : tyB Try.prog (.slice takeT) 72 = true := by kernel_rfl

section
variable {HT : Type} {enc : TypeId × Value → HT} {W : World} {base : Nat} {held : Bool}

set_option maxRecDepth 100000 in
theorem open_takes {base' : Nat} {v : Value} {d : DataW HT} {p : List MemPlace} (hv : Value.okWide Try.prog W .any base' 72 v) (h : DataW.Trod enc Try.prog W base (fun _ => true) held 72 v d p) (hw : ∀ n ∈ DataW.weights Try.prog 72 d, n ≤ reachBytes) :
    ∃ takes, SlR (below (absH W)) 3 TkC (absH W) (absA W.heap.size v) takes := by
  have hc := open_argZ take_ty take_tb h hw
  have hna : ∀ cs, v ≠ .agg cs := by
    intro cs e
    subst e
    unfold Value.okWide at hv
    rw [Try.underlying72] at hv
    simp [Cell.okWide, Cell.ok, Try.underlying72] at hv
  have hcs : v.cells.toList = [v] := by
    cases v <;> first | rfl | exact absurd rfl (hna _)
  have habs : absA W.heap.size v = absV W.heap.size v := by
    cases v <;> first | rfl | exact absurd rfl (hna _)
  rw [hcs] at hc
  rw [habs]
  obtain ⟨xs, s, _, _⟩ := slR_of (R := TkC) (S := fun _ => True) (fun cs hc => by
    have hl := (cellsZ_plain _ hc).1
    have hl : cs.length = 3 := hl
    simp only [takeT, CellsZ, StructZ, Ty.size] at hc
    match cs, hl with
    | [c0, c1, c2], _ =>
      simp at hc
      obtain ⟨⟨a, e1, _⟩, ⟨b, e2, _⟩, e3⟩ := hc
      rcases e3 with e3 | e3 <;> subst e1 e2 e3
      · exact ⟨⟨a, b, false⟩, rfl, trivial⟩
      · exact ⟨⟨a, b, true⟩, rfl, trivial⟩) hc
  exact ⟨xs, s⟩

end

end Go.Proofs.Ytkkagpchcefidaa
