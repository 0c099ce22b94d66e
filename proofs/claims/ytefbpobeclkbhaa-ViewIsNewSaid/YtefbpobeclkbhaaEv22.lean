/- Ev22: parts of slices. -/
import Derived.Test.YtefbpobeclkbhaaEv21
set_option linter.unusedSimpArgs false
set_option linter.unusedVariables false
namespace Go.Ev

/-- A part of a slice. -/
def slcV (size : Nat) (v : Value) (lo hi : Option Value) : Option Value := match v with
    | .slice none 0 0 => match optInt hi 0 with
      | some q => match optInt lo 0 with
        | some p => if p ≤ q ∧ q ≤ 0 then some (.slice none 0 0) else none
        | none => none
      | none => none
    | .slice (some ⟨b, o, none⟩) n c => match optInt hi n with
      | some q => match optInt lo 0 with
        | some p => if p ≤ q ∧ q ≤ c then some (.slice (some ⟨b, o + p * size, none⟩) (q - p) (c - p)) else none
        | none => none
      | none => none
    | _ => none

@[simp ↓ high] theorem evOp_slice {size : Nat} {x : Operand} {lo hi : Option Operand} {s : Env} {h : H} : evOp (.slice size x lo hi) s h = (slcV size (aeval s x) (lo.map (aeval s)) (hi.map (aeval s))).map fun v => (v, h) := by
  show (match aeval s x with
    | .slice none 0 0 => match optInt (hi.map (aeval s)) 0 with
      | some q => match optInt (lo.map (aeval s)) 0 with
        | some p => if p ≤ q ∧ q ≤ 0 then some (Value.slice none 0 0, h) else none
        | none => none
      | none => none
    | .slice (some ⟨b, o, none⟩) n c => match optInt (hi.map (aeval s)) n with
      | some q => match optInt (lo.map (aeval s)) 0 with
        | some p => if p ≤ q ∧ q ≤ c then some (.slice (some ⟨b, o + p * size, none⟩) (q - p) (c - p), h) else none
        | none => none
      | none => none
    | _ => none) = _
  unfold slcV
  split
  · split
    · split
      · split <;> rfl
      · rfl
    · rfl
  · split
    · split
      · split <;> rfl
      · rfl
    · rfl
  · rfl

section
variable {α : Type} {ok : Nat → Prop} {w : Nat} {R : H → List Value → α → Prop} {h : H} {v : Value} {xs : List α}

/-- The first ones. -/
theorem Bld.take (s : Bld ok w R h v xs) {n : Nat} (hn : n ≤ xs.length) : ∃ v', slcV w v none (some (.int .i64 n)) = some v' ∧ SlR ok w R h v' (xs.take n) := by
  rcases s with ⟨rfl, rfl⟩ | ⟨b, cs, an, rfl, hk, hb, hl, hi⟩
  · simp at hn; subst hn
    exact ⟨.slice none 0 0, by simp [slcV, optInt], .inl ⟨.inl rfl, rfl⟩⟩
  · refine ⟨.slice (some ⟨b, 0, none⟩) n xs.length, by simp [slcV, optInt, hn], .inr ⟨b, 0, xs.length, cs, ?_, by simp; omega, hk, cel_of hb, ?_⟩⟩
    · rw [List.length_take, Nat.min_eq_left hn]
    · intro i x hx
      have hi' := (List.getElem?_eq_some_iff.1 hx).1
      simp at hi'
      rw [List.getElem?_take, if_pos (by omega)] at hx
      refine ⟨?_, ?_⟩
      · have : (i + 1) * w ≤ xs.length * w := Nat.mul_le_mul_right _ (by omega)
        rw [Nat.add_mul] at this
        omega
      · rw [Nat.zero_add]; exact hi i x hx

/-- All but the first ones. -/
theorem Bld.drop (s : Bld ok w R h v xs) {n : Nat} (hn : n ≤ xs.length) : ∃ v', slcV w v (some (.int .i64 n)) none = some v' ∧ SlR ok w R h v' (xs.drop n) := by
  rcases s with ⟨rfl, rfl⟩ | ⟨b, cs, an, rfl, hk, hb, hl, hi⟩
  · simp at hn; subst hn
    exact ⟨.slice none 0 0, by simp [slcV, optInt], .inl ⟨.inl rfl, rfl⟩⟩
  · refine ⟨.slice (some ⟨b, 0 + n * w, none⟩) (xs.length - n) (xs.length - n), by simp [slcV, optInt, hn], .inr ⟨b, 0 + n * w, xs.length - n, cs, ?_, by simp, hk, cel_of hb, ?_⟩⟩
    · rw [List.length_drop]
    · intro i x hx
      rw [List.getElem?_drop] at hx
      have hi' := (List.getElem?_eq_some_iff.1 hx).1
      refine ⟨?_, ?_⟩
      · have : (n + i + 1) * w ≤ xs.length * w := Nat.mul_le_mul_right _ (by omega)
        rw [Nat.add_mul, Nat.add_mul] at this
        omega
      · have := hi (n + i) x hx
        rw [Nat.add_mul] at this
        rw [Nat.zero_add]; exact this
end

end Go.Ev
