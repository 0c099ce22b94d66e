/- Several texts in one: Qo0, Qo1. -/
import Derived.Deep.Strs
import Derived.Test.YtkkagpchcefidaaW20

/- What is handed in: scripts of steps. -/
set_option linter.unusedVariables false
set_option linter.unusedSimpArgs false
namespace Go.Proofs.Ytkkagpchcefidaa
open Go.Ev Go.ChangeShapes Go.WideShapes Go.RowKit

theorem Try.own : ownKnob Try.prog.godebug = none := by kernel_rfl
theorem Try.laidOut : laidOutB Try.prog = true := by kernel_rfl

abbrev tI : Ty := .int .i64
def seenT : Ty := .struct [.str, .str, tI]
def shotT : Ty := .struct [tI, .str, tI, .slice seenT]
def partT : Ty := .struct [tI, shotT]
def changeT : Ty := .struct [tI, .str, .str, tI]
def taggedT : Ty := .struct [changeT, .slice tI]
def stepT : Ty := .struct [tI, tI, tI, .slice taggedT, .slice partT]
theorem step_ty : tyOk Try.prog (.slice stepT) 22 = true := by kernel_rfl
theorem step_tb : tyB Try.prog (.slice stepT) 22 = true := by kernel_rfl

theorem slR_of {e : Ty} {α : Type} {R : H → List Value → α → Prop} {S : α → Prop} {h : H} (hex : ∀ cs, CellsZ h e cs → ∃ x, R h cs x ∧ S x) {v : Value} (hc : CellsZ h (.slice e) [v]) :
    ∃ xs : List α, SlR (fun b => b < h.size) e.size R h v xs ∧ (∀ x ∈ xs, S x) ∧ xs.length * e.need ≤ reachBytes := by
  simp only [CellsZ] at hc
  rcases hc with e | e | ⟨b, o, n, c, bs, e, hnc, _, hz, hbs, hg, hi⟩
  · simp at e; subst e
    exact ⟨[], .inl ⟨.inl rfl, rfl⟩, by simp, by simp⟩
  · simp at e; subst e
    exact ⟨[], .inl ⟨.inr rfl, rfl⟩, by simp, by simp⟩
  · simp at e; subst e
    have hx : ∀ i, i < n → ∃ x, R h ((bs.drop (o + i * e.size)).take e.size) x ∧ S x := fun i hi' => hex _ (hi i hi').2
    refine ⟨(List.range n).attach.map fun i => Classical.choose (hx i.1 (List.mem_range.1 i.2)), .inr ⟨b, o, c, bs, by simp, by simpa using hnc, hbs, cel_of hg, ?_⟩, ?_, by simpa using hz⟩
    · intro i a ha
      simp only [List.getElem?_map, Option.map_eq_some_iff] at ha
      obtain ⟨⟨j, hj⟩, hj', rfl⟩ := ha
      have hij : i = j := by
        have := congrArg (Option.map Subtype.val) hj'
        rw [← List.getElem?_map, List.attach_map_subtype_val] at this
        have hlt := List.mem_range.1 hj
        obtain ⟨h1, h2⟩ := List.getElem?_eq_some_iff.1 (show (List.range n)[i]? = some j from this)
        simpa using h2
      subst hij
      have hlt := List.mem_range.1 hj
      exact ⟨(hi i hlt).1, (Classical.choose_spec (hx i hlt)).1⟩
    · intro x hx'
      simp only [List.mem_map] at hx'
      obtain ⟨⟨j, hj⟩, _, rfl⟩ := hx'
      exact (Classical.choose_spec (hx j (List.mem_range.1 hj))).2

abbrev below (h : H) : Nat → Prop := fun b => b < h.size

theorem open_ints {h : H} {v : Value} (hc : CellsZ h (.slice tI) [v]) : ∃ xs, SlR (below h) 1 IntC h v xs ∧ xs.length ≤ 17592186044416 := by
  obtain ⟨xs, s, _, hz⟩ := slR_of (R := IntC) (S := fun _ => True) (fun cs hc => by
    simp only [CellsZ] at hc
    obtain ⟨n, rfl, _⟩ := hc
    exact ⟨n, rfl, trivial⟩) hc
  have hn : tI.need = 8 := rfl
  rw [hn] at hz
  exact ⟨xs, s, by unfold reachBytes at hz; omega⟩

theorem open_seens {h : H} {v : Value} (hc : CellsZ h (.slice seenT) [v]) : ∃ xs, SlR (below h) 3 SeenC h v xs ∧ xs.length ≤ 3518437208883 := by
  obtain ⟨xs, s, _, hz⟩ := slR_of (R := SeenC) (S := fun _ => True) (fun cs hc => by
    have hl := (cellsZ_plain _ hc).1
    have hl : cs.length = 3 := hl
    simp only [seenT, CellsZ, StructZ, Ty.size] at hc
    obtain ⟨_, ⟨a, e1, _⟩, _, ⟨b, e2, _⟩, _, ⟨n, e3, _⟩, _⟩ := hc
    match cs, hl with
    | [c0, c1, c2], _ =>
      simp at e1 e2 e3
      subst e1 e2 e3
      exact ⟨⟨a, b, n⟩, rfl, trivial⟩) hc
  have hn : seenT.need = 40 := rfl
  rw [hn] at hz
  exact ⟨xs, s, by unfold reachBytes at hz; omega⟩

theorem open_tagged {h : H} {v : Value} (hc : CellsZ h (.slice taggedT) [v]) : ∃ xs, SlR (below h) 5 (TgdC (below h)) h v xs ∧ ShortT xs := by
  obtain ⟨xs, s, hs, hz⟩ := slR_of (R := TgdC (below h)) (S := fun t => t.tags.length ≤ 17592186044416) (fun cs hc => by
    have hl := (cellsZ_plain _ hc).1
    have hl : cs.length = 5 := hl
    simp only [taggedT, changeT, CellsZ, StructZ, Ty.size, Ty.sizes] at hc
    match cs, hl with
    | [c0, c1, c2, c3, c4], _ =>
      simp at hc
      obtain ⟨⟨⟨k, e1, _⟩, ⟨a, e2, _⟩, ⟨b, e3, _⟩, ⟨n, e4, _⟩⟩, hv⟩ := hc
      subst e1 e2 e3 e4
      obtain ⟨ts, st, hts⟩ := open_ints (h := h) (v := c4) (by simp only [CellsZ, Ty.size]; simpa using hv)
      exact ⟨⟨⟨k, a, b, n⟩, ts⟩, ⟨c4, rfl, st⟩, hts⟩) hc
  have hn : taggedT.need = 72 := rfl
  rw [hn] at hz
  exact ⟨xs, s, by unfold reachBytes at hz; omega, hs⟩

theorem open_parts {h : H} {v : Value} (hc : CellsZ h (.slice partT) [v]) : ∃ xs, SlR (below h) 5 (PrtC (below h)) h v xs ∧ ShortP xs := by
  obtain ⟨xs, s, hs, hz⟩ := slR_of (R := PrtC (below h)) (S := fun t => t.nodes.length ≤ 3518437208883) (fun cs hc => by
    have hl := (cellsZ_plain _ hc).1
    have hl : cs.length = 5 := hl
    simp only [partT, shotT, CellsZ, StructZ, Ty.size, Ty.sizes] at hc
    match cs, hl with
    | [c0, c1, c2, c3, c4], _ =>
      simp at hc
      obtain ⟨⟨k, e1, _⟩, ⟨n, e2, _⟩, ⟨a, e3, _⟩, ⟨m, e4, _⟩, hv⟩ := hc
      subst e1 e2 e3 e4
      obtain ⟨ts, st, hts⟩ := open_seens (h := h) (v := c4) (by simp only [CellsZ, Ty.size]; simpa using hv)
      exact ⟨⟨k, n, a, m, ts⟩, ⟨c4, rfl, st⟩, hts⟩) hc
  have hn : partT.need = 64 := rfl
  rw [hn] at hz
  exact ⟨xs, s, by unfold reachBytes at hz; omega, hs⟩

theorem open_steps {h : H} {v : Value} (hc : CellsZ h (.slice stepT) [v]) : ∃ xs, SlR (below h) 5 (StpC (below h)) h v xs ∧ ∀ s ∈ xs, s.Short := by
  obtain ⟨xs, s, hs, hz⟩ := slR_of (R := StpC (below h)) (S := Stp.Short) (fun cs hc => by
    have hl := (cellsZ_plain _ hc).1
    have hl : cs.length = 5 := hl
    simp only [stepT, CellsZ, StructZ, Ty.size, Ty.sizes] at hc
    match cs, hl with
    | [c0, c1, c2, c3, c4], _ =>
      simp at hc
      obtain ⟨⟨k, e1, _⟩, ⟨n, e2, _⟩, ⟨a, e3, _⟩, hv, hw⟩ := hc
      subst e1 e2 e3
      obtain ⟨ts, st, hts⟩ := open_tagged (h := h) (v := c3) (by simp only [CellsZ]; simpa using hv)
      obtain ⟨ps, sp, hps⟩ := open_parts (h := h) (v := c4) (by simp only [CellsZ]; simpa using hw)
      exact ⟨⟨k, n, a, ts, ps⟩, ⟨c3, c4, rfl, st, sp⟩, hts, hps⟩) hc
  exact ⟨xs, s, hs⟩

end Go.Proofs.Ytkkagpchcefidaa

/- A script, handed in. -/
set_option linter.unusedVariables false
set_option linter.unusedSimpArgs false
namespace Go.Proofs.Ytkkagpchcefidaa
open Go.Ev Go.ChangeShapes Go.WideShapes Go.RowKit

section
variable {HT : Type} {enc : TypeId × Value → HT} {W : World} {base : Nat} {held : Bool}

set_option maxRecDepth 100000 in
theorem open_script {base' : Nat} {v : Value} {d : DataW HT} {p : List MemPlace} (hv : Value.okWide Try.prog W .any base' 22 v) (h : DataW.Trod enc Try.prog W base (fun _ => true) held 22 v d p) (hw : ∀ n ∈ DataW.weights Try.prog 22 d, n ≤ reachBytes) :
    ∃ script, SlR (below (absH W)) 5 (StpC (below (absH W))) (absH W) (absA W.heap.size v) script ∧ ∀ s ∈ script, s.Short := by
  have hc := open_argZ step_ty step_tb h hw
  have hna : ∀ cs, v ≠ .agg cs := by
    intro cs e
    subst e
    unfold Value.okWide at hv
    rw [Try.underlying22] at hv
    simp [Cell.okWide, Cell.ok, Try.underlying22] at hv
  have hcs : v.cells.toList = [v] := by
    cases v <;> first | rfl | exact absurd rfl (hna _)
  have habs : absA W.heap.size v = absV W.heap.size v := by
    cases v <;> first | rfl | exact absurd rfl (hna _)
  rw [hcs] at hc
  rw [habs]
  exact open_steps hc

end

theorem weights_at {HT : Type} {P : Program} {ts : List TypeId} {ds : List (DataW HT)} (h : (DataW.weightsEach P ts ds).all (· ≤ reachBytes) = true) (j : Nat) {t : TypeId} {d : DataW HT} (ht : ts[j]? = some t) (hd : ds[j]? = some d) : ∀ n ∈ DataW.weights P t d, n ≤ reachBytes := fun n hn => by
  simpa using List.all_eq_true.1 h n (DataW.weights_mem_each ht hd n hn)

end Go.Proofs.Ytkkagpchcefidaa
