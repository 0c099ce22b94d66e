/- The statement 'LineTurned': the walk and the law joined. -/
import Derived.Test.YtmenfnapbggglaaLb9
import Derived.Deep.Strs
set_option linter.unusedVariables false
set_option linter.unusedSimpArgs false
namespace Go.Proofs.Ytmenfnapbggglaa
open Go.Ev Go.ChangeShapes Go.WideShapes Go.RowKit

theorem Try.own : ownKnob Try.prog.godebug = none := by kernel_rfl
theorem Try.laidOut : laidOutB Try.prog = true := by kernel_rfl

section
variable {HT : Type} {enc : TypeId × Value → HT} {W : World} {base : Nat} {sp : Nat → Bool} {held : Bool}

/-- A message that is handed in. -/
theorem open_msg {v : Value} {d : DataW HT} {p : List MemPlace} (h : DataW.Trod enc Try.prog W base sp held 23 v d p) : ∃ m : Msg, v = m.val := by
  obtain ⟨fuel, hf⟩ := h
  obtain ⟨xs, n, _, _, hl, hlen, hi⟩ := DataW.trod_struct Try.underlying23 hf
  have hc : Try.prog.cellsOf 23 = 3 := by kernel_rfl
  have hc3 : Try.prog.cellsOf 3 = 1 := by kernel_rfl
  have hc9 : Try.prog.cellsOf 9 = 1 := by kernel_rfl
  rw [hc] at hl
  have h0 := hi 0 _ rfl
  have h1 := hi 1 _ rfl
  have h2 := hi 2 _ rfl
  match xs, hlen with
  | [x0, x1, x2], _ =>
    obtain ⟨n0, e0, _⟩ := DataW.trod_int Try.underlying3 h0
    obtain ⟨n1, e1, _⟩ := DataW.trod_int Try.underlying3 h1
    obtain ⟨s, e2, _⟩ := DataW.trod_string Try.underlying9 h2
    have e0 : List.take (Try.prog.cellsOf 3) (List.drop 0 v.cells.toList) = _ := e0
    have e1 : List.take (Try.prog.cellsOf 3) (List.drop 1 v.cells.toList) = _ := e1
    have e2 : List.take (Try.prog.cellsOf 9) (List.drop 2 v.cells.toList) = _ := e2
    rw [hc3] at e0 e1
    rw [hc9] at e2
    have hv : v.cells.toList = [.int .i64 n0, .int .i64 n1, .string s] := by
      match hcs : v.cells.toList, hl with
      | [a, b, c], _ =>
        rw [hcs] at e0 e1 e2
        simp at e0 e1 e2
        rw [e0, e1, e2]
    refine ⟨⟨n0, n1, s⟩, ?_⟩
    cases v with
    | agg cs =>
      obtain ⟨l⟩ := cs
      simp [Value.cells] at hv
      rw [hv]; rfl
    | _ => simp [Value.cells] at hv

end

set_option maxRecDepth 100000 in
theorem lineTurned_lifted (os : Os) (started : os.Started) (H : Type) (enc : TypeId × Value → H) :
    ReturnsInHanded {} Try.checked os 3 .any (Rows.lineTurnedSpec.pre6 enc Try.prog Try.f3 Rows.lineTurnedRow.domain false) (Rows.lineTurnedSpec.post enc Try.prog Try.f3 false true false false) := by
  refine returnsInHanded_of_change (C := Try.checked) Try.own started (by kernel_rfl) Try.func3
    (ChangeSpec.witness6 (enc := enc) (C := Try.checked) false ⟨#[], #[.agg #[.int .i64 0, .int .i64 0, .string .empty], .int .i64 0, .int .i64 0, .int .i64 0], []⟩ 8 (by kernel_rfl) (by kernel_rfl) (by kernel_rfl) (by kernel_rfl)) ?_
  intro W base args ds gs before hval0 hW hcnd _
  have hval : ∀ (j : Nat) t v, Try.f3.params[j]? = some t → args[j]? = some v → Value.okWide Try.prog W .any base t v := hval0
  have hW' : DataW.Whole enc Try.prog Try.f3.params.toList Rows.lineTurnedSpec.vars false W args.toList ds gs before := hW
  obtain ⟨p, q, hA, _, _, _, _⟩ := hW'
  rw [Try.params3] at hA hval
  obtain ⟨v0, v1, v2, v3, d0, d1, d2, d3, p0, p1, p2, p3, rfl, rfl, rfl, h0, h1, h2, h3⟩ := trodAll_four hA
  obtain ⟨m, rfl⟩ := open_msg h0
  obtain ⟨a, rfl, rfl, rfl, _⟩ := open_int Try.underlying3 (hval 1 3 v1 rfl rfl) h1
  obtain ⟨b, rfl, rfl, rfl, _⟩ := open_int Try.underlying3 (hval 2 3 v2 rfl rfl) h2
  obtain ⟨c, rfl, rfl, rfl, _⟩ := open_int Try.underlying3 (hval 3 3 v3 rfl rfl) h3
  obtain ⟨v, h', e, rfl⟩ := turned_spec 1000 (Nat.le_refl _) m a b c (absH W)
  exact law_calls (P := Try.prog) (f := 3) (cf_ok _) hW Try.laidOut rfl rfl (by kernel_rfl) Try.underlying4 (by kernel_rfl) e

theorem lineTurned_holds : Rows.LineTurnedSaid :=
  OpenClaim.holds_of_wide 3 Try.f3 rfl rfl rfl rfl rfl rfl rfl ⟨rfl, rfl, rfl, rfl, rfl⟩ rfl rfl rfl rfl rfl (by kernel_rfl) Try.func3 (by kernel_rfl)
    (of_decide_eq_true (by kernel_rfl)) (by unfold Func.isWrapper; first | (rw [if_pos (by decide +kernel)]; kernel_rfl) | (rw [if_neg (by decide +kernel)]; exact ⟨rfl, rfl⟩))
    (fun os started H enc _ => lineTurned_lifted os started H enc)

end Go.Proofs.Ytmenfnapbggglaa
