/- Several texts in one: Up1. -/
import Derived.JoinedCond
import Derived.Test.YtkkagpchcefidaaMr11

/- What is handed in, where its bulk is bounded: scripts of steps. -/
set_option linter.unusedVariables false
set_option linter.unusedSimpArgs false
namespace Go.Proofs.Ytkkagpchcefidaa
open Go.Ev Go.ChangeShapes Go.WideShapes Go.RowKit

theorem slB_of {e : Ty} {α : Type} {R : H → List Value → α → Prop} {S : α → Prop} {h : H} (hex : ∀ cs, CellsB h e cs → ∃ x, R h cs x ∧ S x) {v : Value} (hc : CellsB h (.slice e) [v]) :
    ∃ xs : List α, SlR (fun b => b < h.size) e.size R h v xs ∧ (∀ x ∈ xs, S x) ∧ xs.length ≤ 1048576 := by
  simp only [CellsB] at hc
  rcases hc with e | e | ⟨b, o, n, c, bs, e, hnc, _, hz, hbs, hg, hi⟩
  · simp at e; subst e
    exact ⟨[], .inl ⟨.inl rfl, rfl⟩, by simp, by simp⟩
  · simp at e; subst e
    exact ⟨[], .inl ⟨.inr rfl, rfl⟩, by simp, by simp⟩
  · simp at e; subst e
    have hx : ∀ i, i < n → ∃ x, R h ((bs.drop (o + i * e.size)).take e.size) x ∧ S x := fun i hi' => hex _ (hi i hi').2
    refine ⟨(List.range n).attach.map fun i => Classical.choose (hx i.1 (List.mem_range.1 i.2)), .inr ⟨b, o, c, bs, by simp, by simpa using hnc, hbs, cel_of hg, ?_⟩, ?_, by simpa using hz⟩
    · intro i a ha
      simp only [List.getElem?_map, Option.map_eq_some_iff] at ha
      obtain ⟨⟨j, hj⟩, hj', rfl⟩ := ha
      have hij : i = j := by
        have := congrArg (Option.map Subtype.val) hj'
        rw [← List.getElem?_map, List.attach_map_subtype_val] at this
        have hlt := List.mem_range.1 hj
        obtain ⟨h1, h2⟩ := List.getElem?_eq_some_iff.1 (show (List.range n)[i]? = some j from this)
        simpa using h2
      subst hij
      have hlt := List.mem_range.1 hj
      exact ⟨(hi i hlt).1, (Classical.choose_spec (hx i hlt)).1⟩
    · intro x hx'
      simp only [List.mem_map] at hx'
      obtain ⟨⟨j, hj⟩, _, rfl⟩ := hx'
      exact (Classical.choose_spec (hx j (List.mem_range.1 hj))).2

theorem openB_ints {h : H} {v : Value} (hc : CellsB h (.slice tI) [v]) : ∃ xs, SlR (below h) 1 IntC h v xs ∧ xs.length ≤ 1048576 := by
  obtain ⟨xs, s, _, hz⟩ := slB_of (R := IntC) (S := fun _ => True) (fun cs hc => by
    simp only [CellsB] at hc
    obtain ⟨n, rfl, _⟩ := hc
    exact ⟨n, rfl, trivial⟩) hc
  exact ⟨xs, s, hz⟩

theorem openB_seens {h : H} {v : Value} (hc : CellsB h (.slice seenT) [v]) : ∃ xs, SlR (below h) 3 SeenC h v xs ∧ xs.length ≤ 1048576 := by
  obtain ⟨xs, s, _, hz⟩ := slB_of (R := SeenC) (S := fun _ => True) (fun cs hc => by
    have hl := (cellsB_plain _ hc).1
    have hl : cs.length = 3 := hl
    simp only [seenT, CellsB, StructB, Ty.size] at hc
    obtain ⟨_, ⟨a, e1, _⟩, _, ⟨b, e2, _⟩, _, ⟨n, e3, _⟩, _⟩ := hc
    match cs, hl with
    | [c0, c1, c2], _ =>
      simp at e1 e2 e3
      subst e1 e2 e3
      exact ⟨⟨a, b, n⟩, rfl, trivial⟩) hc
  exact ⟨xs, s, hz⟩

theorem openB_tagged {h : H} {v : Value} (hc : CellsB h (.slice taggedT) [v]) : ∃ xs, SlR (below h) 5 (TgdC (below h)) h v xs ∧ xs.length ≤ 1048576 ∧ ∀ t ∈ xs, t.tags.length ≤ 1048576 := by
  obtain ⟨xs, s, hs, hz⟩ := slB_of (R := TgdC (below h)) (S := fun t => t.tags.length ≤ 1048576) (fun cs hc => by
    have hl := (cellsB_plain _ hc).1
    have hl : cs.length = 5 := hl
    simp only [taggedT, changeT, CellsB, StructB, Ty.size, Ty.sizes] at hc
    match cs, hl with
    | [c0, c1, c2, c3, c4], _ =>
      simp at hc
      obtain ⟨⟨⟨k, e1, _⟩, ⟨a, e2, _⟩, ⟨b, e3, _⟩, ⟨n, e4, _⟩⟩, hv⟩ := hc
      subst e1 e2 e3 e4
      obtain ⟨ts, st, hts⟩ := openB_ints (h := h) (v := c4) (by simp only [CellsB, Ty.size]; simpa using hv)
      exact ⟨⟨⟨k, a, b, n⟩, ts⟩, ⟨c4, rfl, st⟩, hts⟩) hc
  exact ⟨xs, s, hz, hs⟩

theorem openB_parts {h : H} {v : Value} (hc : CellsB h (.slice partT) [v]) : ∃ xs, SlR (below h) 5 (PrtC (below h)) h v xs ∧ xs.length ≤ 1048576 ∧ ∀ t ∈ xs, t.nodes.length ≤ 1048576 := by
  obtain ⟨xs, s, hs, hz⟩ := slB_of (R := PrtC (below h)) (S := fun t => t.nodes.length ≤ 1048576) (fun cs hc => by
    have hl := (cellsB_plain _ hc).1
    have hl : cs.length = 5 := hl
    simp only [partT, shotT, CellsB, StructB, Ty.size, Ty.sizes] at hc
    match cs, hl with
    | [c0, c1, c2, c3, c4], _ =>
      simp at hc
      obtain ⟨⟨k, e1, _⟩, ⟨n, e2, _⟩, ⟨a, e3, _⟩, ⟨m, e4, _⟩, hv⟩ := hc
      subst e1 e2 e3 e4
      obtain ⟨ts, st, hts⟩ := openB_seens (h := h) (v := c4) (by simp only [CellsB, Ty.size]; simpa using hv)
      exact ⟨⟨k, n, a, m, ts⟩, ⟨c4, rfl, st⟩, hts⟩) hc
  exact ⟨xs, s, hz, hs⟩

theorem openB_steps {h : H} {v : Value} (hc : CellsB h (.slice stepT) [v]) : ∃ xs, SlR (below h) 5 (StpC (below h)) h v xs ∧ ∀ s ∈ xs, s.Small := by
  obtain ⟨xs, s, hs, hz⟩ := slB_of (R := StpC (below h)) (S := Stp.Small) (fun cs hc => by
    have hl := (cellsB_plain _ hc).1
    have hl : cs.length = 5 := hl
    simp only [stepT, CellsB, StructB, Ty.size, Ty.sizes] at hc
    match cs, hl with
    | [c0, c1, c2, c3, c4], _ =>
      simp at hc
      obtain ⟨⟨k, e1, _⟩, ⟨n, e2, _⟩, ⟨a, e3, _⟩, hv, hw⟩ := hc
      subst e1 e2 e3
      obtain ⟨ts, st, hts⟩ := openB_tagged (h := h) (v := c3) (by simp only [CellsB]; simpa using hv)
      obtain ⟨ps, sp, hps⟩ := openB_parts (h := h) (v := c4) (by simp only [CellsB]; simpa using hw)
      exact ⟨⟨k, n, a, ts, ps⟩, ⟨c3, c4, rfl, st, sp⟩, hts, hps⟩) hc
  exact ⟨xs, s, hs⟩

section
variable {HT : Type} {enc : TypeId × Value → HT} {W : World} {base : Nat} {held : Bool}

set_option maxRecDepth 100000 in
theorem openB_script {base' : Nat} {v : Value} {d : DataW HT} {p : List MemPlace} (hv : Value.okWide Try.prog W .any base' 22 v) (h : DataW.Trod enc Try.prog W base (fun _ => true) held 22 v d p) (hw : Rows.uptoBulk d ≤ 1048576) :
    ∃ script, SlR (below (absH W)) 5 (StpC (below (absH W))) (absH W) (absA W.heap.size v) script ∧ ∀ s ∈ script, s.Small := by
  have hc := open_argB step_ty h hw
  have hna : ∀ cs, v ≠ .agg cs := by
    intro cs e
    subst e
    unfold Value.okWide at hv
    rw [Try.underlying22] at hv
    simp [Cell.okWide, Cell.ok, Try.underlying22] at hv
  have hcs : v.cells.toList = [v] := by
    cases v <;> first | rfl | exact absurd rfl (hna _)
  have habs : absA W.heap.size v = absV W.heap.size v := by
    cases v <;> first | rfl | exact absurd rfl (hna _)
  rw [hcs] at hc
  rw [habs]
  exact openB_steps hc

end

end Go.Proofs.Ytkkagpchcefidaa
