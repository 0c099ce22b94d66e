/- Several texts in one: Nk0. -/
import Derived.OwnWalk
import Derived.Maps.RangeWalk
import Derived.Test.YtmenfnapbggglaaM9

/- A function of the library's behind the evaluator: the keys of a map, sorted, in new memory. -/
set_option linter.unusedSimpArgs false
set_option linter.unusedVariables false
namespace Go.Ev
open Go.RowKit

theorem grown_rel {ρ : Ren} {h : H} {w w' : World} (r : Rel ρ h w) (g : w.grownBy w' none) : Rel ρ h w' ∧ Ext ρ h w ρ h w' := by
  refine ⟨⟨r.dom, fun b i hb => Nat.lt_of_lt_of_le (r.bnd b i hb) g.size, fun b i x hb hx => (r.blk b i x hb hx).keep (.refl _) (g.block _ (r.bnd b i hb) (by simp)), r.sep, r.anc⟩, ⟨.refl _, Nat.le_refl _, g.size, fun _ _ _ => rfl, fun b' hb' _ => g.block b' hb' (by simp), fun _ _ q => .inl q, ?_, ⟨g.os, g.output⟩⟩⟩
  intro b x x' _ h1 h2 h3
  rw [h1] at h2
  cases h2
  exact h3

theorem own_rel {ρ : Ren} {h : H} {w w' : World} (r : Rel ρ h w) (g : w.grownBy w' none) {gb cap n : Nat} {cur : Array Value} {e : TypeId} {xs : List Value} (hb : w'.heap[gb]? = some (.cells cur e (0, 0))) (hbase : w.heap.size ≤ gb) (hn : n ≤ cap) (hs : cur.size = cap) (hl : xs.length = n) (hx : cur.toList.take n = xs) (hv : VRs ρ xs xs) :
    Rel (ρ.put h.size ⟨gb, 0, 1, cap - n⟩) (newRow h xs 1 []) w' ∧ Ext ρ h w (ρ.put h.size ⟨gb, 0, 1, cap - n⟩) (newRow h xs 1 []) w' ∧ VR (ρ.put h.size ⟨gb, 0, 1, cap - n⟩) (.slice (some ⟨h.size, 0, none⟩) n n) (.slice (some ⟨gb, 0, none⟩) n cap) := by
  have hgl : gb < w'.heap.size := (Array.getElem?_eq_some_iff.1 hb).1
  have hsz : (newRow h xs 1 []).size = h.size + 1 := by simp
  have hold : ∀ b, b < h.size → (newRow h xs 1 [])[b]? = h[b]? := by
    intro b hb
    show (h.push _)[b]? = _
    rw [Array.getElem?_push_lt hb]
    exact (Array.getElem?_eq_getElem hb).symm
  have hnew : (newRow h xs 1 [])[h.size]? = some (.cells xs 1 true []) := by
    show (h.push _)[h.size]? = _
    simp
  have put : ∀ {b i}, (ρ.put h.size ⟨gb, 0, 1, cap - n⟩) b = some i → (b = h.size ∧ i = ⟨gb, 0, 1, cap - n⟩) ∨ (b < h.size ∧ ρ b = some i) := by
    intro b i hbi
    unfold Ren.put at hbi
    split at hbi
    · cases hbi; exact .inl ⟨by assumption, rfl⟩
    · exact .inr ⟨r.dom _ _ hbi, hbi⟩
  refine ⟨⟨?_, ?_, ?_, ?_, ?_⟩, ⟨r.put_le _, by omega, g.size, ?_, fun b' hb' _ => g.block b' hb' (by simp), ?_, ?_, ⟨g.os, g.output⟩⟩, ?_⟩
  · intro b i hbi
    rcases put hbi with ⟨rfl, _⟩ | ⟨q, _⟩ <;> omega
  · intro b i hbi
    rcases put hbi with ⟨_, rfl⟩ | ⟨_, q⟩
    · exact hgl
    · exact Nat.lt_of_lt_of_le (r.bnd b i q) g.size
  · intro b i x hbi hx'
    rcases put hbi with ⟨rfl, rfl⟩ | ⟨q, q2⟩
    · rw [hnew] at hx'
      cases hx'
      have hcell : ∀ j, w'.cell? ⟨gb, j, none⟩ = cur[j]? := by
        intro j
        simp [World.cell?, hb]
      refine ⟨rfl, ?_, ?_⟩
      · intro j hj
        simp only at hj
        refine ⟨?_, fun _ => by simp [World.frozen?, hb]⟩
        rw [hcell]
        have : j < cur.size := by omega
        simp [this]
      · intro j v hj
        have hjn : j < n := by have := (List.getElem?_eq_some_iff.1 hj).1; omega
        refine ⟨v, ?_, ?_⟩
        · show w'.cell? ⟨gb, j + 0, none⟩ = some v
          rw [hcell, Nat.add_zero, ← Array.getElem?_toList, ← hj, ← hx, List.getElem?_take_of_lt hjn]
        · obtain ⟨v', h1, h2⟩ := hv.get hj
          rw [hj] at h1
          cases h1
          exact h2.mono (r.put_le _)
    · rw [hold b q] at hx'
      exact (r.blk b i x q2 hx').keep (r.put_le _) (g.block _ (r.bnd b i q2) (by simp))
  · intro b c i j x y hbi hcj hij hne hx' hy hxd hyd
    rcases put hbi with ⟨rfl, rfl⟩ | ⟨q, q2⟩
    · rcases put hcj with ⟨rfl, rfl⟩ | ⟨p, p2⟩
      · exact absurd rfl hne
      · have := r.bnd c j p2
        simp only at hij
        omega
    · rcases put hcj with ⟨rfl, rfl⟩ | ⟨p, p2⟩
      · have := r.bnd b i q2
        simp only at hij
        omega
      · rw [hold b q] at hx'
        rw [hold c p] at hy
        exact r.sep b c i j x y q2 p2 hij hne hx' hy hxd hyd
  · intro b i x a hbi hx' ha
    rcases put hbi with ⟨rfl, rfl⟩ | ⟨q, q2⟩
    · rw [hnew] at hx'
      cases hx'
      cases ha
    · rw [hold b q] at hx'
      have := r.anc b i x a q2 hx' ha
      cases hρ : ρ a with
      | none => exact absurd hρ this
      | some k => rw [r.put_le _ a k hρ]; simp
  · intro b hb' _
    exact hold b hb'
  · intro b i hbi
    rcases put hbi with ⟨rfl, rfl⟩ | ⟨q, q2⟩
    · exact .inr ⟨Nat.le_refl _, .inl hbase⟩
    · exact .inl q2
  · intro b x x' hbl h1 h2 h3
    rw [hold b hbl, h1] at h2
    cases h2
    exact h3
  · exact VR.slice (i := ⟨gb, 0, 1, cap - n⟩) (by simp [Ren.put]) (Nat.le_refl _) hn (by simp) (.inl rfl)

def intKeys : List (Value × Value) → Option (List Int)
  | [] => some []
  | (.int .i64 n, _) :: r => (intKeys r).map (n :: ·)
  | _ => none

/-- The keys of the map in a cell, sorted. -/
def keysX : List Value → H → Res
  | [.pointer none], h => some (.slice none 0 0, h)
  | [.pointer (some ⟨b, o, none⟩)], h => match rd h b o 1 with
    | some [.map none] => some (.slice none 0 0, h)
    | some [.map (some m)] => match h[m]? with
      | some (.map es _) => match intKeys es with
        | some ks => if ks.Nodup ∧ ks.length ≤ 1000000 ∧ (∀ n ∈ ks, 0 ≤ n ∧ n ≤ 1000000000) then
            (if ks = [] then some (.slice none 0 0, h) else some (.slice (some ⟨h.size, 0, none⟩) ks.length ks.length, newRow h ((ks.mergeSort fun x y => decide (x ≤ y)).map (Value.int .i64)) 1 []))
          else none
        | none => none
      | _ => none
    | _ => none
  | _, _ => none

end Go.Ev
