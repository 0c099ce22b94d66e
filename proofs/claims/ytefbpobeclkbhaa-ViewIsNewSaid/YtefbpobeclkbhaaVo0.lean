/- What is handed in: scripts of acts, notes. -/
import Derived.Test.YtefbpobeclkbhaaVc1
import Derived.Test.YtefbpobeclkbhaaEv20
import Derived.Deep.Strs
set_option linter.unusedVariables false
set_option linter.unusedSimpArgs false
namespace Go.Proofs.Ytefbpobeclkbhaa
open Go.Ev Go.ChangeShapes Go.WideShapes Go.RowKit

theorem Try.own : ownKnob Try.prog.godebug = none := by kernel_rfl
theorem Try.laidOut : laidOutB Try.prog = true := by kernel_rfl

abbrev tI : Ty := .int .i64
def opT : Ty := .struct [tI, .str, .str, tI, tI]
def entryT : Ty := .struct [tI, tI, tI, tI, tI, .slice opT]
def resultT : Ty := .struct [.str, .str, tI, tI, tI, tI, .slice .str]
def replyT : Ty := .struct [tI, tI, tI, .slice resultT]
def watchT : Ty := .struct [tI, .str, tI, tI]
def seenT : Ty := .struct [.str, .str, tI]
def shotT : Ty := .struct [tI, .str, tI, .slice seenT]
def partT : Ty := .struct [tI, shotT]
def changeT : Ty := .struct [tI, .str, .str, tI]
def taggedT : Ty := .struct [changeT, .slice tI]
def itemT : Ty := .struct [tI, tI, .bool, .slice taggedT, .slice partT]
def viewT : Ty := .struct [tI, tI, tI]
def noteT : Ty := .struct [tI, viewT, tI, tI, tI, tI, tI, tI, tI, .slice opT, .slice entryT, replyT, .slice watchT, .slice partT, .slice itemT, .str]
def actT : Ty := .struct [tI, tI, tI, noteT]
theorem act_ty : tyOk Try.prog (.slice actT) 34 = true := by kernel_rfl
theorem note_ty : tyOk Try.prog noteT 47 = true := by kernel_rfl

theorem open_note {h : H} {cs : List Value} (hc : CellsT h noteT cs) : ∃ nk nn rest, cs = .int .i64 nk :: .int .i64 nn :: rest ∧ rest.length = 19 ∧ rest.all oneCell = true ∧ sameL rest rest = true := by
  obtain ⟨hl, hp⟩ := cellsT_plain _ hc
  have hl : cs.length = 21 := hl
  simp only [noteT, viewT, CellsT, StructT, Ty.size, Ty.sizes] at hc
  obtain ⟨_, ⟨nk, e1, _⟩, _, ⟨_, ⟨nn, e2, _⟩, _⟩, _⟩ := hc
  match cs, hl with
  | c0 :: c1 :: rest, hl =>
    simp at e1 e2 hl
    subst e1 e2
    refine ⟨nk, nn, rest, rfl, hl, ?_, sameL_refl rest fun x hx => (hp x (by simp [hx])).2⟩
    rw [List.all_eq_true]
    exact fun x hx => (hp x (by simp [hx])).1

theorem open_act {h : H} {cs : List Value} (hc : CellsT h actT cs) : ∃ a : Act, cs = a.cells ∧ a.Ok := by
  simp only [actT, CellsT, StructT, Ty.size] at hc
  obtain ⟨l1, ⟨k, e1, _⟩, l2, ⟨a, e2, _⟩, l3, ⟨b, e3, _⟩, l4, hn, e5⟩ := hc
  have hn' : CellsT h noteT (cs.drop 3) := by
    have : noteT.size = 21 := rfl
    rw [this] at hn e5
    simp only [List.drop_drop] at hn e5
    have : (cs.drop 3).take 21 = cs.drop 3 := by
      apply List.take_of_length_le
      have := congrArg List.length e5
      simp at this ⊢; omega
    rw [this] at hn
    exact hn
  obtain ⟨nk, nn, rest, e4, r1, r2, r3⟩ := open_note hn'
  match cs, l1 with
  | c0 :: c1 :: c2 :: r, _ =>
    simp at e1 e2 e3 e4
    subst e1 e2 e3 e4
    exact ⟨⟨k, a, b, nk, nn, rest⟩, rfl, r1, r2, r3⟩
  | [c0, c1], _ => simp at e4
  | [c0], _ => simp at e4
  | [], l => simp at l

section
variable {HT : Type} {enc : TypeId × Value → HT} {W : World} {base : Nat} {held : Bool}

set_option maxRecDepth 100000 in
theorem open_script {base' : Nat} {v : Value} {d : DataW HT} {p : List MemPlace} (hv : Value.okWide Try.prog W .any base' 34 v) (h : DataW.Trod enc Try.prog W base (fun _ => true) held 34 v d p) :
    ∃ acts, ScAt (absH W).size (absH W) (absA W.heap.size v) acts := by
  have hc := open_arg act_ty h
  have hna : ∀ cs, v ≠ .agg cs := by
    intro cs e
    subst e
    unfold Value.okWide at hv
    rw [Try.underlying34] at hv
    simp [Cell.okWide, Cell.ok, Try.underlying34] at hv
  have hcs : v.cells.toList = [v] := by
    cases v <;> first | rfl | exact absurd rfl (hna _)
  have habs : absA W.heap.size v = absV W.heap.size v := by
    cases v <;> first | rfl | exact absurd rfl (hna _)
  rw [hcs] at hc
  rw [habs]
  simp only [List.map_cons, List.map_nil] at hc
  generalize absV W.heap.size v = u at hc
  simp only [CellsT] at hc
  rcases hc with e | e | ⟨b, o, n, c, bs, e, hnc, _, hbs, hg, hi⟩
  · simp at e; subst e
    exact ⟨[], .inl ⟨rfl, rfl⟩⟩
  · simp at e; subst e
    exact ⟨[], .inl ⟨rfl, rfl⟩⟩
  · simp at e; subst e
    have hsz : actT.size = 24 := rfl
    rw [hsz] at hi
    have hex : ∀ i, i < n → ∃ a : Act, (bs.drop (o + i * 24)).take 24 = a.cells ∧ a.Ok := fun i hi' => open_act (hi i hi').2
    refine ⟨(List.range n).attach.map fun i => Classical.choose (hex i.1 (List.mem_range.1 i.2)), .inr ⟨b, o, c, bs, 0, false, [], by simp, hbs, hg, ?_⟩⟩
    intro i a ha
    simp only [List.getElem?_map, Option.map_eq_some_iff] at ha
    obtain ⟨⟨j, hj⟩, hj', rfl⟩ := ha
    have hij : i = j := by
      have := congrArg (Option.map Subtype.val) hj'
      rw [← List.getElem?_map, List.attach_map_subtype_val] at this
      have hlt := List.mem_range.1 hj
      obtain ⟨h1, h2⟩ := List.getElem?_eq_some_iff.1 (show (List.range n)[i]? = some j from this)
      simpa using h2
    subst hij
    have hlt := List.mem_range.1 hj
    obtain ⟨h1, h2⟩ := Classical.choose_spec (hex i hlt)
    exact ⟨h1, (hi i hlt).1, h2⟩
set_option maxRecDepth 100000 in
theorem open_noteA {base' : Nat} {v : Value} {d : DataW HT} {p : List MemPlace} (hv : Value.okWide Try.prog W .any base' 47 v) (h : DataW.Trod enc Try.prog W base (fun _ => true) held 47 v d p) :
    ∃ nk nn rest, absA W.heap.size v = .agg ⟨.int .i64 nk :: .int .i64 nn :: rest⟩ ∧ rest.length = 19 ∧ rest.all oneCell = true := by
  have hc := open_arg note_ty h
  have hna : ∃ cs, v = .agg cs := by
    unfold Value.okWide at hv
    rw [Try.underlying47] at hv
    obtain ⟨cs, e, _⟩ := hv
    exact ⟨cs, e⟩
  obtain ⟨⟨l⟩, rfl⟩ := hna
  obtain ⟨nk, nn, rest, e, h1, h2, _⟩ := open_note hc
  refine ⟨nk, nn, rest, ?_, h1, h2⟩
  show Value.agg ⟨l.map (absV W.heap.size)⟩ = _
  have e' : l.map (absV W.heap.size) = .int .i64 nk :: .int .i64 nn :: rest := e
  rw [e']

end

end Go.Proofs.Ytefbpobeclkbhaa
