/- Several texts in one: Lo0. -/
import Derived.Deep.Strs
import Derived.Test.YtmenfnapbggglaaM18

/- What is handed in: scripts of steps. -/
set_option linter.unusedVariables false
set_option linter.unusedSimpArgs false
namespace Go.Proofs.Ytmenfnapbggglaa
open Go.Ev Go.ChangeShapes Go.WideShapes Go.RowKit

theorem Try.own : ownKnob Try.prog.godebug = none := by kernel_rfl
theorem Try.laidOut : laidOutB Try.prog = true := by kernel_rfl

abbrev tI : Ty := .int .i64
def msgT : Ty := .struct [tI, tI, .str]
def stepT : Ty := .struct [tI, tI, .slice msgT, tI, tI, tI]
theorem step_ty : tyOk Try.prog (.slice stepT) 40 = true := by kernel_rfl
theorem step_tb : tyB Try.prog (.slice stepT) 40 = true := by kernel_rfl

theorem slR_of {e : Ty} {α : Type} {R : H → List Value → α → Prop} {h : H} (hex : ∀ cs, CellsZ h e cs → ∃ x, R h cs x) {v : Value} (hc : CellsZ h (.slice e) [v]) :
    ∃ xs : List α, SlR (fun b => b < h.size) e.size R h v xs := by
  simp only [CellsZ] at hc
  rcases hc with e | e | ⟨b, o, n, c, bs, e, hnc, _, hz, hbs, hg, hi⟩
  · simp at e; subst e
    exact ⟨[], .inl ⟨.inl rfl, rfl⟩⟩
  · simp at e; subst e
    exact ⟨[], .inl ⟨.inr rfl, rfl⟩⟩
  · simp at e; subst e
    have hx : ∀ i, i < n → ∃ x, R h ((bs.drop (o + i * e.size)).take e.size) x := fun i hi' => hex _ (hi i hi').2
    refine ⟨(List.range n).attach.map fun i => Classical.choose (hx i.1 (List.mem_range.1 i.2)), .inr ⟨b, o, c, bs, by simp, by simpa using hnc, hbs, cel_of hg, ?_⟩⟩
    intro i a ha
    simp only [List.getElem?_map, Option.map_eq_some_iff] at ha
    obtain ⟨⟨j, hj⟩, hj', rfl⟩ := ha
    have hij : i = j := by
      have := congrArg (Option.map Subtype.val) hj'
      rw [← List.getElem?_map, List.attach_map_subtype_val] at this
      have hlt := List.mem_range.1 hj
      obtain ⟨h1, h2⟩ := List.getElem?_eq_some_iff.1 (show (List.range n)[i]? = some j from this)
      simpa using h2
    subst hij
    have hlt := List.mem_range.1 hj
    exact ⟨(hi i hlt).1, Classical.choose_spec (hx i hlt)⟩

abbrev below (h : H) : Nat → Prop := fun b => b < h.size

theorem open_msgs {h : H} {v : Value} (hc : CellsZ h (.slice msgT) [v]) : ∃ xs, SlR (below h) 3 MsgC h v xs :=
  slR_of (R := MsgC) (fun cs hc => by
    have hl := (cellsZ_plain _ hc).1
    have hl : cs.length = 3 := hl
    simp only [msgT, CellsZ, StructZ, Ty.size] at hc
    obtain ⟨_, ⟨a, e1, _⟩, _, ⟨b, e2, _⟩, _, ⟨n, e3, _⟩, _⟩ := hc
    match cs, hl with
    | [c0, c1, c2], _ =>
      simp at e1 e2 e3
      subst e1 e2 e3
      exact ⟨⟨a, b, n⟩, rfl⟩) hc

theorem open_steps {h : H} {v : Value} (hc : CellsZ h (.slice stepT) [v]) : ∃ xs, SlR (below h) 6 (StpC (below h)) h v xs :=
  slR_of (R := StpC (below h)) (fun cs hc => by
    have hl := (cellsZ_plain _ hc).1
    have hl : cs.length = 6 := hl
    simp only [stepT, CellsZ, StructZ, Ty.size, Ty.sizes] at hc
    match cs, hl with
    | [c0, c1, c2, c3, c4, c5], _ =>
      simp at hc
      obtain ⟨⟨k, e1, _⟩, ⟨n, e2, _⟩, hv, ⟨a, e3, _⟩, ⟨b, e4, _⟩, ⟨c, e5, _⟩⟩ := hc
      subst e1 e2 e3 e4 e5
      obtain ⟨ms, st⟩ := open_msgs (h := h) (v := c2) (by simp only [CellsZ]; simpa using hv)
      exact ⟨⟨k, n, ms, a, b, c⟩, ⟨c2, rfl, st⟩⟩) hc

section
variable {HT : Type} {enc : TypeId × Value → HT} {W : World} {base : Nat} {held : Bool}

set_option maxRecDepth 100000 in
theorem open_script {base' : Nat} {v : Value} {d : DataW HT} {p : List MemPlace} (hv : Value.okWide Try.prog W .any base' 40 v) (h : DataW.Trod enc Try.prog W base (fun _ => true) held 40 v d p) (hw : ∀ n ∈ DataW.weights Try.prog 40 d, n ≤ reachBytes) :
    ∃ script, SlR (below (absH W)) 6 (StpC (below (absH W))) (absH W) (absA W.heap.size v) script := by
  have hc := open_argZ step_ty step_tb h hw
  have hna : ∀ cs, v ≠ .agg cs := by
    intro cs e
    subst e
    unfold Value.okWide at hv
    rw [Try.underlying40] at hv
    simp [Cell.okWide, Cell.ok, Try.underlying40] at hv
  have hcs : v.cells.toList = [v] := by
    cases v <;> first | rfl | exact absurd rfl (hna _)
  have habs : absA W.heap.size v = absV W.heap.size v := by
    cases v <;> first | rfl | exact absurd rfl (hna _)
  rw [hcs] at hc
  rw [habs]
  exact open_steps hc

end

theorem weights_at {HT : Type} {P : Program} {ts : List TypeId} {ds : List (DataW HT)} (h : (DataW.weightsEach P ts ds).all (· ≤ reachBytes) = true) (j : Nat) {t : TypeId} {d : DataW HT} (ht : ts[j]? = some t) (hd : ds[j]? = some d) : ∀ n ∈ DataW.weights P t d, n ≤ reachBytes := fun n hn => by
  simpa using List.all_eq_true.1 h n (DataW.weights_mem_each ht hd n hn)

end Go.Proofs.Ytmenfnapbggglaa
