/- Ev20: what is handed in, cell by cell, as the sealed abstract heap holds it. -/
import Derived.Test.YtefbpobeclkbhaaEv19
import Derived.ChangeArms
set_option linter.unusedSimpArgs false
set_option linter.unusedVariables false
namespace Go.Ev

inductive Ty where
  | int (k : IntKind)
  | bool
  | str
  | slice (e : Ty)
  | struct (fs : List Ty)

mutual
def Ty.size : Ty → Nat
  | .int _ => 1
  | .bool => 1
  | .str => 1
  | .slice _ => 1
  | .struct fs => Ty.sizes fs
def Ty.sizes : List Ty → Nat
  | [] => 0
  | f :: fs => f.size + Ty.sizes fs
end

mutual
/-- The program's type is laid out so. -/
def tyOk (P : Program) : Ty → TypeId → Bool
  | .int k, t => match P.underlying t with
    | some (.int k') => k == k'
    | _ => false
  | .bool, t => match P.underlying t with
    | some .bool => true
    | _ => false
  | .str, t => match P.underlying t with
    | some .string => true
    | _ => false
  | .slice e, t => match P.underlying t with
    | some (.slice el) => P.cellsOf el == e.size && decide (0 < e.size) && tyOk P e el
    | _ => false
  | .struct fs, t => match P.underlying t with
    | some (.struct fields) => P.cellsOf t == Ty.sizes fs && fieldsOk P fs fields.toList 0
    | _ => false
def fieldsOk (P : Program) : List Ty → List Field → Nat → Bool
  | [], [], _ => true
  | y :: ys, f :: fs, o => f.offset == o && P.cellsOf f.type == y.size && tyOk P y f.type && fieldsOk P ys fs (o + y.size)
  | _, _, _ => false
end

mutual
/-- Cells of such a type. -/
def CellsT (h : H) : Ty → List Value → Prop
  | .int k, cs => ∃ n, cs = [.int k n] ∧ (Lit.int k n).wf = true
  | .bool, cs => ∃ b, cs = [.bool b]
  | .str, cs => ∃ s : ByteArray, cs = [.string s] ∧ s.size ≤ maxLen
  | .slice e, cs => cs = [.slice none 0 0] ∨ cs = [.slice (some ⟨0, 0, some 0⟩) 0 0] ∨
      ∃ b o n c bs, cs = [.slice (some ⟨b, o, none⟩) n c] ∧ n ≤ c ∧ c ≤ maxLen ∧ b < h.size ∧ hget h b = some (.cells bs 0 false []) ∧ ∀ i, i < n → o + i * e.size + e.size ≤ bs.length ∧ CellsT h e ((bs.drop (o + i * e.size)).take e.size)
  | .struct fs, cs => StructT h fs cs
def StructT (h : H) : List Ty → List Value → Prop
  | [], cs => cs = []
  | f :: fs, cs => f.size ≤ cs.length ∧ CellsT h f (cs.take f.size) ∧ StructT h fs (cs.drop f.size)
end

theorem cells_row {w : World} {base : Nat} {a : Addr} {n : Nat} {cs : List Value} (h : w.cells? base a n = some cs) (hn : 0 < n) :
    ∃ (arr : Array Value) (T : TypeId) (fr : Nat × Nat), w.heap[a.block]? = some (.cells arr T fr) ∧ a.spot = none ∧ a.off + n ≤ arr.size ∧ cs = (arr.toList.drop a.off).take n := by
  obtain ⟨_, hl, hi⟩ := World.cells?_some h
  have h0 := hi 0 hn
  have ha : a.add 0 = a := by simp [Addr.add]
  rw [ha] at h0
  have hs0 : ∃ v, cs[0]? = some v := ⟨cs[0]'(by omega), List.getElem?_eq_getElem (by omega)⟩
  obtain ⟨v0, hv0⟩ := hs0
  rw [hv0] at h0
  unfold World.cell? at h0
  split at h0
  · rename_i c T fr hc
    have hsp : a.spot = none := by
      cases hsp : a.spot with
      | none => rfl
      | some q => rw [hsp] at h0; simp at h0
    have hcell : ∀ i, i < n → c[a.off + i]? = cs[i]? := by
      intro i hi'
      rw [← hi i hi']
      unfold World.cell?
      by_cases hz : i = 0
      · subst hz; rw [ha, hc]; simp [hsp]
      · simp [Addr.add, hz, hc]
    have hsz : a.off + n ≤ c.size := by
      have hlast : cs[n - 1]? = some (cs[n - 1]'(by omega)) := List.getElem?_eq_getElem (by omega)
      have := hcell (n - 1) (by omega)
      rw [hlast] at this
      have := (Array.getElem?_eq_some_iff.1 this).1
      omega
    refine ⟨c, T, fr, hc, hsp, hsz, ?_⟩
    apply List.ext_getElem?
    intro i
    by_cases hi' : i < n
    · rw [← hcell i hi', List.getElem?_take, if_pos hi', List.getElem?_drop, Array.getElem?_toList]
    · rw [List.getElem?_eq_none (by omega), List.getElem?_take, if_neg hi']
  · cases h0

section
variable {HT : Type} {enc : TypeId × Value → HT} {P : Program} {W : World} {base : Nat} {held : Bool}

mutual
theorem open_cells : ∀ (y : Ty) (t : TypeId), tyOk P y t = true → ∀ {fuel : Nat} {cs : List Value} {x : DataW HT × List MemPlace}, DataW.trod enc P W base (fun _ => true) held fuel t cs = some x →
    CellsT (absH W) y (cs.map (absV W.heap.size)) ∧ cs.length = y.size
  | .int k, t, hy, fuel, cs, x, h => by
    unfold tyOk at hy
    split at hy
    · rename_i k' ht
      have hk : k = k' := by simpa using hy
      subst hk
      obtain ⟨n, rfl, _, hw⟩ := DataW.trod_int ht h
      exact ⟨by simp only [CellsT]; exact ⟨n, rfl, hw⟩, rfl⟩
    · cases hy
  | .bool, t, hy, fuel, cs, x, h => by
    unfold tyOk at hy
    split at hy
    · rename_i ht
      obtain ⟨b, rfl, _⟩ := DataW.trod_bool ht h
      exact ⟨by simp only [CellsT]; exact ⟨b, rfl⟩, rfl⟩
    · cases hy
  | .str, t, hy, fuel, cs, x, h => by
    unfold tyOk at hy
    split at hy
    · rename_i ht
      obtain ⟨s, rfl, _, hw⟩ := DataW.trod_string ht h
      exact ⟨by simp only [CellsT]; exact ⟨s, rfl, hw⟩, rfl⟩
    · cases hy
  | .slice e, t, hy, fuel, cs, x, h => by
    unfold tyOk at hy
    split at hy
    · rename_i el ht
      simp only [Bool.and_eq_true, beq_iff_eq, decide_eq_true_eq] at hy
      obtain ⟨⟨hsz, hpos⟩, hel⟩ := hy
      rcases DataW.trod_slice ht h with ⟨rfl, _⟩ | ⟨a, len, cap, elems, rest, n, _, rfl, _, _, hlc, hcm, hlen, hE, hR, _⟩
      · exact ⟨by simp only [CellsT]; exact .inl rfl, rfl⟩
      · refine ⟨?_, rfl⟩
        simp only [CellsT]
        by_cases hc0 : cap = 0
        · subst hc0
          have : len = 0 := by omega
          subst this
          exact .inr (.inl rfl)
        · rw [hsz] at hE hR
          obtain ⟨hrl, hR⟩ := hR rfl
          have hrow : ∀ i, i < cap → ∃ row, W.cells? base (a.add (i * e.size)) e.size = some row := by
            intro i hi
            by_cases hil : i < len
            · have := hE i hil
              obtain ⟨q, hq⟩ : ∃ q, elems[i]? = some q := ⟨_, List.getElem?_eq_getElem (by omega)⟩
              rw [hq] at this
              obtain ⟨row, h1, _⟩ := Option.bind_eq_some_iff.1 this
              exact ⟨row, h1⟩
            · have := hR (i - len) (by omega)
              obtain ⟨q, hq⟩ : ∃ q, rest[i - len]? = some q := ⟨_, List.getElem?_eq_getElem (by omega)⟩
              rw [hq, show len + (i - len) = i by omega] at this
              obtain ⟨row, h1, _⟩ := Option.bind_eq_some_iff.1 this
              exact ⟨row, h1⟩
          obtain ⟨row0, h0⟩ := hrow 0 (by omega)
          rw [Nat.zero_mul, show a.add 0 = a from by simp [Addr.add]] at h0
          obtain ⟨arr, T, fr, hh, hsp, _, _⟩ := cells_row h0 hpos
          obtain ⟨b, o, sp⟩ := a
          simp only at hsp hh
          subst hsp
          have hbl : b < W.heap.size := (Array.getElem?_eq_some_iff.1 hh).1
          refine .inr (.inr ⟨b, o, len, cap, arr.toList.map (absV W.heap.size), ?_, hlc, hcm, by rw [absH_size]; exact hbl, ?_, ?_⟩)
          · simp only [List.map_cons, List.map_nil, absV]
            by_cases hl0 : len = 0
            · subst hl0
              cases cap with
              | zero => exact absurd rfl hc0
              | succ cap => simp [absV, hbl]
            · cases len with
              | zero => exact absurd rfl hl0
              | succ len => simp [absV, hbl, hlc]
          · show (W.heap.map (absB W.heap.size))[b]? = _
            rw [Array.getElem?_map, hh]; rfl
          · intro i hi
            obtain ⟨row, hr⟩ := hrow i (by omega)
            obtain ⟨arr', T', fr', hh', _, hsz', hrow'⟩ := cells_row hr hpos
            have hoff : ((⟨b, o, none⟩ : Addr).add (i * e.size)).off = o + i * e.size := by
              by_cases hz : i * e.size = 0
              · simp [Addr.add, hz]
              · simp [Addr.add, hz]
            have hblk : ((⟨b, o, none⟩ : Addr).add (i * e.size)).block = b := by
              by_cases hz : i * e.size = 0
              · simp [Addr.add, hz]
              · simp [Addr.add, hz]
            rw [hblk, hh] at hh'
            simp only [Option.some.injEq, Obj.cells.injEq] at hh'
            obtain ⟨rfl, _, _⟩ := hh'
            rw [hoff] at hsz' hrow'
            have hEi := hE i hi
            obtain ⟨q, hq⟩ : ∃ q, elems[i]? = some q := ⟨_, List.getElem?_eq_getElem (by omega)⟩
            rw [hq, hr] at hEi
            simp only [Option.bind_some] at hEi
            have hrec := (open_cells e el hel hEi).1
            refine ⟨by simpa using hsz', ?_⟩
            rw [hrow'] at hrec
            simpa [List.map_take, List.map_drop] using hrec
    · cases hy
  | .struct fs, t, hy, fuel, cs, x, h => by
    unfold tyOk at hy
    split at hy
    · rename_i fields ht
      simp only [Bool.and_eq_true, beq_iff_eq] at hy
      obtain ⟨hsz, hf⟩ := hy
      obtain ⟨xs, n, _, _, hl, hlen, hi⟩ := DataW.trod_struct ht h
      rw [hsz] at hl
      refine ⟨?_, by simpa [Ty.size] using hl⟩
      simp only [CellsT]
      have := open_fields fs fields.toList 0 hf (fuel := n) (cs := cs) (by omega) (fun i f hif => by
        have hif' : fields[i]? = some f := by simpa using hif
        have := hi i f hif'
        obtain ⟨q, hq⟩ : ∃ q, xs[i]? = some q := ⟨_, List.getElem?_eq_getElem (by
          have := (Array.getElem?_eq_some_iff.1 hif').1
          omega)⟩
        rw [hq] at this
        exact ⟨q, this⟩)
      simpa using this
    · cases hy
theorem open_fields : ∀ (ys : List Ty) (fs : List Field) (o : Nat), fieldsOk P ys fs o = true → ∀ {fuel : Nat} {cs : List Value}, cs.length = o + Ty.sizes ys →
    (∀ (i : Nat) (f : Field), fs[i]? = some f → ∃ x, DataW.trod enc P W base (fun _ => true) held fuel f.type ((cs.drop f.offset).take (P.cellsOf f.type)) = some x) →
    StructT (absH W) ys ((cs.drop o).map (absV W.heap.size))
  | [], [], o, _, fuel, cs, hl, _ => by
    simp only [StructT, Ty.sizes] at hl ⊢
    simp; omega
  | [], _ :: _, _, h, _, _, _, _ => by simp [fieldsOk] at h
  | _ :: _, [], _, h, _, _, _, _ => by simp [fieldsOk] at h
  | y :: ys, f :: fs, o, h, fuel, cs, hl, hx => by
    simp only [fieldsOk, Bool.and_eq_true, beq_iff_eq] at h
    obtain ⟨⟨⟨h1, h2⟩, h3⟩, h4⟩ := h
    simp only [Ty.sizes] at hl
    obtain ⟨x, hx0⟩ := hx 0 f rfl
    rw [h1, h2] at hx0
    have g1 := (open_cells y f.type h3 hx0).1
    have g2 := open_fields ys fs (o + y.size) h4 (fuel := fuel) (cs := cs) (by omega) (fun i g hg => hx (i + 1) g (by simpa using hg))
    simp only [StructT]
    refine ⟨by simp; omega, ?_, ?_⟩
    · simpa [List.map_take, List.map_drop] using g1
    · simpa [List.map_drop, List.drop_drop, Nat.add_comm] using g2
end

mutual
theorem cellsT_plain {h : H} : ∀ (y : Ty) {cs : List Value}, CellsT h y cs → cs.length = y.size ∧ ∀ x ∈ cs, oneCell x = true ∧ sameCell x x = true
  | .int k, cs, hc => by
    simp only [CellsT] at hc
    obtain ⟨n, rfl, _⟩ := hc
    simp [Ty.size, oneCell, sameCell]
  | .bool, cs, hc => by
    simp only [CellsT] at hc
    obtain ⟨n, rfl⟩ := hc
    simp [Ty.size, oneCell, sameCell]
  | .str, cs, hc => by
    simp only [CellsT] at hc
    obtain ⟨n, rfl, _⟩ := hc
    refine ⟨rfl, fun x hx => ?_⟩
    rw [List.mem_singleton] at hx
    subst hx
    exact ⟨rfl, (MapKept.bytes_beq n n).2 rfl⟩
  | .slice e, cs, hc => by
    simp only [CellsT] at hc
    rcases hc with rfl | rfl | ⟨b, o, n, c, bs, rfl, _⟩ <;> simp [Ty.size, oneCell, sameCell]
  | .struct fs, cs, hc => by
    simp only [CellsT] at hc
    have := structT_plain fs hc
    simpa [Ty.size] using this
theorem structT_plain {h : H} : ∀ (ys : List Ty) {cs : List Value}, StructT h ys cs → cs.length = Ty.sizes ys ∧ ∀ x ∈ cs, oneCell x = true ∧ sameCell x x = true
  | [], cs, hc => by
    simp only [StructT] at hc
    subst hc
    simp [Ty.sizes]
  | y :: ys, cs, hc => by
    simp only [StructT] at hc
    obtain ⟨h1, h2, h3⟩ := hc
    obtain ⟨a1, a2⟩ := cellsT_plain y h2
    obtain ⟨b1, b2⟩ := structT_plain ys h3
    refine ⟨by simp [Ty.sizes] at b1 ⊢; omega, fun x hx => ?_⟩
    rw [← List.take_append_drop y.size cs] at hx
    rcases List.mem_append.1 hx with hx | hx
    · exact a2 x hx
    · exact b2 x hx
end

theorem sameL_refl : ∀ (l : List Value), (∀ x ∈ l, sameCell x x = true) → sameL l l = true
  | [], _ => rfl
  | x :: l, h => by
    unfold sameL
    rw [h x (by simp), sameL_refl l fun y hy => h y (by simp [hy])]
    rfl

/-- An argument. -/
theorem open_arg {y : Ty} {t : TypeId} (hy : tyOk P y t = true) {v : Value} {d : DataW HT} {p : List MemPlace} (h : DataW.Trod enc P W base (fun _ => true) held t v d p) : CellsT (absH W) y (v.cells.toList.map (absV W.heap.size)) := by
  obtain ⟨fuel, h⟩ := h
  exact (open_cells y t hy h).1

end

end Go.Ev
