/- Several texts in one: Ev20, Ev21, Qd0, Qc0, Qc1, Qc2, Qc3, Qm0. -/
import Derived.ChangeArms
import Derived.Test.YtkkagpchcefidaaW12

/- Ev20: what is handed in, cell by cell, as the sealed abstract heap holds it. -/
set_option linter.unusedSimpArgs false
set_option linter.unusedVariables false
namespace Go.Ev

inductive Ty where
  | int (k : IntKind)
  | bool
  | str
  | slice (e : Ty)
  | struct (fs : List Ty)

mutual
def Ty.size : Ty → Nat
  | .int _ => 1
  | .bool => 1
  | .str => 1
  | .slice _ => 1
  | .struct fs => Ty.sizes fs
def Ty.sizes : List Ty → Nat
  | [] => 0
  | f :: fs => f.size + Ty.sizes fs
end

mutual
/-- The program's type is laid out so. -/
def tyOk (P : Program) : Ty → TypeId → Bool
  | .int k, t => match P.underlying t with
    | some (.int k') => k == k'
    | _ => false
  | .bool, t => match P.underlying t with
    | some .bool => true
    | _ => false
  | .str, t => match P.underlying t with
    | some .string => true
    | _ => false
  | .slice e, t => match P.underlying t with
    | some (.slice el) => P.cellsOf el == e.size && decide (0 < e.size) && tyOk P e el
    | _ => false
  | .struct fs, t => match P.underlying t with
    | some (.struct fields) => P.cellsOf t == Ty.sizes fs && fieldsOk P fs fields.toList 0
    | _ => false
def fieldsOk (P : Program) : List Ty → List Field → Nat → Bool
  | [], [], _ => true
  | y :: ys, f :: fs, o => f.offset == o && P.cellsOf f.type == y.size && tyOk P y f.type && fieldsOk P ys fs (o + y.size)
  | _, _, _ => false
end

mutual
/-- Cells of such a type. -/
def CellsT (h : H) : Ty → List Value → Prop
  | .int k, cs => ∃ n, cs = [.int k n] ∧ (Lit.int k n).wf = true
  | .bool, cs => ∃ b, cs = [.bool b]
  | .str, cs => ∃ s : ByteArray, cs = [.string s] ∧ s.size ≤ maxLen
  | .slice e, cs => cs = [.slice none 0 0] ∨ cs = [.slice (some ⟨0, 0, some 0⟩) 0 0] ∨
      ∃ b o n c bs, cs = [.slice (some ⟨b, o, none⟩) n c] ∧ n ≤ c ∧ c ≤ maxLen ∧ b < h.size ∧ hget h b = some (.cells bs 0 false []) ∧ ∀ i, i < n → o + i * e.size + e.size ≤ bs.length ∧ CellsT h e ((bs.drop (o + i * e.size)).take e.size)
  | .struct fs, cs => StructT h fs cs
def StructT (h : H) : List Ty → List Value → Prop
  | [], cs => cs = []
  | f :: fs, cs => f.size ≤ cs.length ∧ CellsT h f (cs.take f.size) ∧ StructT h fs (cs.drop f.size)
end

theorem cells_row {w : World} {base : Nat} {a : Addr} {n : Nat} {cs : List Value} (h : w.cells? base a n = some cs) (hn : 0 < n) :
    ∃ (arr : Array Value) (T : TypeId) (fr : Nat × Nat), w.heap[a.block]? = some (.cells arr T fr) ∧ a.spot = none ∧ a.off + n ≤ arr.size ∧ cs = (arr.toList.drop a.off).take n := by
  obtain ⟨_, hl, hi⟩ := World.cells?_some h
  have h0 := hi 0 hn
  have ha : a.add 0 = a := by simp [Addr.add]
  rw [ha] at h0
  have hs0 : ∃ v, cs[0]? = some v := ⟨cs[0]'(by omega), List.getElem?_eq_getElem (by omega)⟩
  obtain ⟨v0, hv0⟩ := hs0
  rw [hv0] at h0
  unfold World.cell? at h0
  split at h0
  · rename_i c T fr hc
    have hsp : a.spot = none := by
      cases hsp : a.spot with
      | none => rfl
      | some q => rw [hsp] at h0; simp at h0
    have hcell : ∀ i, i < n → c[a.off + i]? = cs[i]? := by
      intro i hi'
      rw [← hi i hi']
      unfold World.cell?
      by_cases hz : i = 0
      · subst hz; rw [ha, hc]; simp [hsp]
      · simp [Addr.add, hz, hc]
    have hsz : a.off + n ≤ c.size := by
      have hlast : cs[n - 1]? = some (cs[n - 1]'(by omega)) := List.getElem?_eq_getElem (by omega)
      have := hcell (n - 1) (by omega)
      rw [hlast] at this
      have := (Array.getElem?_eq_some_iff.1 this).1
      omega
    refine ⟨c, T, fr, hc, hsp, hsz, ?_⟩
    apply List.ext_getElem?
    intro i
    by_cases hi' : i < n
    · rw [← hcell i hi', List.getElem?_take, if_pos hi', List.getElem?_drop, Array.getElem?_toList]
    · rw [List.getElem?_eq_none (by omega), List.getElem?_take, if_neg hi']
  · cases h0

section
variable {HT : Type} {enc : TypeId × Value → HT} {P : Program} {W : World} {base : Nat} {held : Bool}

mutual
theorem open_cells : ∀ (y : Ty) (t : TypeId), tyOk P y t = true → ∀ {fuel : Nat} {cs : List Value} {x : DataW HT × List MemPlace}, DataW.trod enc P W base (fun _ => true) held fuel t cs = some x →
    CellsT (absH W) y (cs.map (absV W.heap.size)) ∧ cs.length = y.size
  | .int k, t, hy, fuel, cs, x, h => by
    unfold tyOk at hy
    split at hy
    · rename_i k' ht
      have hk : k = k' := by simpa using hy
      subst hk
      obtain ⟨n, rfl, _, hw⟩ := DataW.trod_int ht h
      exact ⟨by simp only [CellsT]; exact ⟨n, rfl, hw⟩, rfl⟩
    · cases hy
  | .bool, t, hy, fuel, cs, x, h => by
    unfold tyOk at hy
    split at hy
    · rename_i ht
      obtain ⟨b, rfl, _⟩ := DataW.trod_bool ht h
      exact ⟨by simp only [CellsT]; exact ⟨b, rfl⟩, rfl⟩
    · cases hy
  | .str, t, hy, fuel, cs, x, h => by
    unfold tyOk at hy
    split at hy
    · rename_i ht
      obtain ⟨s, rfl, _, hw⟩ := DataW.trod_string ht h
      exact ⟨by simp only [CellsT]; exact ⟨s, rfl, hw⟩, rfl⟩
    · cases hy
  | .slice e, t, hy, fuel, cs, x, h => by
    unfold tyOk at hy
    split at hy
    · rename_i el ht
      simp only [Bool.and_eq_true, beq_iff_eq, decide_eq_true_eq] at hy
      obtain ⟨⟨hsz, hpos⟩, hel⟩ := hy
      rcases DataW.trod_slice ht h with ⟨rfl, _⟩ | ⟨a, len, cap, elems, rest, n, _, rfl, _, _, hlc, hcm, hlen, hE, hR, _⟩
      · exact ⟨by simp only [CellsT]; exact .inl rfl, rfl⟩
      · refine ⟨?_, rfl⟩
        simp only [CellsT]
        by_cases hc0 : cap = 0
        · subst hc0
          have : len = 0 := by omega
          subst this
          exact .inr (.inl rfl)
        · rw [hsz] at hE hR
          obtain ⟨hrl, hR⟩ := hR rfl
          have hrow : ∀ i, i < cap → ∃ row, W.cells? base (a.add (i * e.size)) e.size = some row := by
            intro i hi
            by_cases hil : i < len
            · have := hE i hil
              obtain ⟨q, hq⟩ : ∃ q, elems[i]? = some q := ⟨_, List.getElem?_eq_getElem (by omega)⟩
              rw [hq] at this
              obtain ⟨row, h1, _⟩ := Option.bind_eq_some_iff.1 this
              exact ⟨row, h1⟩
            · have := hR (i - len) (by omega)
              obtain ⟨q, hq⟩ : ∃ q, rest[i - len]? = some q := ⟨_, List.getElem?_eq_getElem (by omega)⟩
              rw [hq, show len + (i - len) = i by omega] at this
              obtain ⟨row, h1, _⟩ := Option.bind_eq_some_iff.1 this
              exact ⟨row, h1⟩
          obtain ⟨row0, h0⟩ := hrow 0 (by omega)
          rw [Nat.zero_mul, show a.add 0 = a from by simp [Addr.add]] at h0
          obtain ⟨arr, T, fr, hh, hsp, _, _⟩ := cells_row h0 hpos
          obtain ⟨b, o, sp⟩ := a
          simp only at hsp hh
          subst hsp
          have hbl : b < W.heap.size := (Array.getElem?_eq_some_iff.1 hh).1
          refine .inr (.inr ⟨b, o, len, cap, arr.toList.map (absV W.heap.size), ?_, hlc, hcm, by rw [absH_size]; exact hbl, ?_, ?_⟩)
          · simp only [List.map_cons, List.map_nil, absV]
            by_cases hl0 : len = 0
            · subst hl0
              cases cap with
              | zero => exact absurd rfl hc0
              | succ cap => simp [absV, hbl]
            · cases len with
              | zero => exact absurd rfl hl0
              | succ len => simp [absV, hbl, hlc]
          · show (W.heap.map (absB W.heap.size))[b]? = _
            rw [Array.getElem?_map, hh]; rfl
          · intro i hi
            obtain ⟨row, hr⟩ := hrow i (by omega)
            obtain ⟨arr', T', fr', hh', _, hsz', hrow'⟩ := cells_row hr hpos
            have hoff : ((⟨b, o, none⟩ : Addr).add (i * e.size)).off = o + i * e.size := by
              by_cases hz : i * e.size = 0
              · simp [Addr.add, hz]
              · simp [Addr.add, hz]
            have hblk : ((⟨b, o, none⟩ : Addr).add (i * e.size)).block = b := by
              by_cases hz : i * e.size = 0
              · simp [Addr.add, hz]
              · simp [Addr.add, hz]
            rw [hblk, hh] at hh'
            simp only [Option.some.injEq, Obj.cells.injEq] at hh'
            obtain ⟨rfl, _, _⟩ := hh'
            rw [hoff] at hsz' hrow'
            have hEi := hE i hi
            obtain ⟨q, hq⟩ : ∃ q, elems[i]? = some q := ⟨_, List.getElem?_eq_getElem (by omega)⟩
            rw [hq, hr] at hEi
            simp only [Option.bind_some] at hEi
            have hrec := (open_cells e el hel hEi).1
            refine ⟨by simpa using hsz', ?_⟩
            rw [hrow'] at hrec
            simpa [List.map_take, List.map_drop] using hrec
    · cases hy
  | .struct fs, t, hy, fuel, cs, x, h => by
    unfold tyOk at hy
    split at hy
    · rename_i fields ht
      simp only [Bool.and_eq_true, beq_iff_eq] at hy
      obtain ⟨hsz, hf⟩ := hy
      obtain ⟨xs, n, _, _, hl, hlen, hi⟩ := DataW.trod_struct ht h
      rw [hsz] at hl
      refine ⟨?_, by simpa [Ty.size] using hl⟩
      simp only [CellsT]
      have := open_fields fs fields.toList 0 hf (fuel := n) (cs := cs) (by omega) (fun i f hif => by
        have hif' : fields[i]? = some f := by simpa using hif
        have := hi i f hif'
        obtain ⟨q, hq⟩ : ∃ q, xs[i]? = some q := ⟨_, List.getElem?_eq_getElem (by
          have := (Array.getElem?_eq_some_iff.1 hif').1
          omega)⟩
        rw [hq] at this
        exact ⟨q, this⟩)
      simpa using this
    · cases hy
theorem open_fields : ∀ (ys : List Ty) (fs : List Field) (o : Nat), fieldsOk P ys fs o = true → ∀ {fuel : Nat} {cs : List Value}, cs.length = o + Ty.sizes ys →
    (∀ (i : Nat) (f : Field), fs[i]? = some f → ∃ x, DataW.trod enc P W base (fun _ => true) held fuel f.type ((cs.drop f.offset).take (P.cellsOf f.type)) = some x) →
    StructT (absH W) ys ((cs.drop o).map (absV W.heap.size))
  | [], [], o, _, fuel, cs, hl, _ => by
    simp only [StructT, Ty.sizes] at hl ⊢
    simp; omega
  | [], _ :: _, _, h, _, _, _, _ => by simp [fieldsOk] at h
  | _ :: _, [], _, h, _, _, _, _ => by simp [fieldsOk] at h
  | y :: ys, f :: fs, o, h, fuel, cs, hl, hx => by
    simp only [fieldsOk, Bool.and_eq_true, beq_iff_eq] at h
    obtain ⟨⟨⟨h1, h2⟩, h3⟩, h4⟩ := h
    simp only [Ty.sizes] at hl
    obtain ⟨x, hx0⟩ := hx 0 f rfl
    rw [h1, h2] at hx0
    have g1 := (open_cells y f.type h3 hx0).1
    have g2 := open_fields ys fs (o + y.size) h4 (fuel := fuel) (cs := cs) (by omega) (fun i g hg => hx (i + 1) g (by simpa using hg))
    simp only [StructT]
    refine ⟨by simp; omega, ?_, ?_⟩
    · simpa [List.map_take, List.map_drop] using g1
    · simpa [List.map_drop, List.drop_drop, Nat.add_comm] using g2
end

mutual
theorem cellsT_plain {h : H} : ∀ (y : Ty) {cs : List Value}, CellsT h y cs → cs.length = y.size ∧ ∀ x ∈ cs, oneCell x = true ∧ sameCell x x = true
  | .int k, cs, hc => by
    simp only [CellsT] at hc
    obtain ⟨n, rfl, _⟩ := hc
    simp [Ty.size, oneCell, sameCell]
  | .bool, cs, hc => by
    simp only [CellsT] at hc
    obtain ⟨n, rfl⟩ := hc
    simp [Ty.size, oneCell, sameCell]
  | .str, cs, hc => by
    simp only [CellsT] at hc
    obtain ⟨n, rfl, _⟩ := hc
    refine ⟨rfl, fun x hx => ?_⟩
    rw [List.mem_singleton] at hx
    subst hx
    exact ⟨rfl, (MapKept.bytes_beq n n).2 rfl⟩
  | .slice e, cs, hc => by
    simp only [CellsT] at hc
    rcases hc with rfl | rfl | ⟨b, o, n, c, bs, rfl, _⟩ <;> simp [Ty.size, oneCell, sameCell]
  | .struct fs, cs, hc => by
    simp only [CellsT] at hc
    have := structT_plain fs hc
    simpa [Ty.size] using this
theorem structT_plain {h : H} : ∀ (ys : List Ty) {cs : List Value}, StructT h ys cs → cs.length = Ty.sizes ys ∧ ∀ x ∈ cs, oneCell x = true ∧ sameCell x x = true
  | [], cs, hc => by
    simp only [StructT] at hc
    subst hc
    simp [Ty.sizes]
  | y :: ys, cs, hc => by
    simp only [StructT] at hc
    obtain ⟨h1, h2, h3⟩ := hc
    obtain ⟨a1, a2⟩ := cellsT_plain y h2
    obtain ⟨b1, b2⟩ := structT_plain ys h3
    refine ⟨by simp [Ty.sizes] at b1 ⊢; omega, fun x hx => ?_⟩
    rw [← List.take_append_drop y.size cs] at hx
    rcases List.mem_append.1 hx with hx | hx
    · exact a2 x hx
    · exact b2 x hx
end

theorem sameL_refl : ∀ (l : List Value), (∀ x ∈ l, sameCell x x = true) → sameL l l = true
  | [], _ => rfl
  | x :: l, h => by
    unfold sameL
    rw [h x (by simp), sameL_refl l fun y hy => h y (by simp [hy])]
    rfl

/-- An argument. -/
theorem open_arg {y : Ty} {t : TypeId} (hy : tyOk P y t = true) {v : Value} {d : DataW HT} {p : List MemPlace} (h : DataW.Trod enc P W base (fun _ => true) held t v d p) : CellsT (absH W) y (v.cells.toList.map (absV W.heap.size)) := by
  obtain ⟨fuel, h⟩ := h
  exact (open_cells y t hy h).1

end

end Go.Ev

/- Ev21: lists in memory: what a slice reads as, by the contents of its row alone; lists that are being built by append. -/
set_option linter.unusedSimpArgs false
set_option linter.unusedVariables false
namespace Go.Ev

theorem ba_self (b : ByteArray) : (b == b) = true := (MapKept.bytes_beq b b).2 rfl
theorem ba_nself (b : ByteArray) : (b != b) = false := by
  show (!(b == b)) = false
  rw [ba_self]; rfl

/-- The contents of a row. -/
def cel (h : H) (b : Nat) : Option (List Value) := match hget h b with
  | some (.cells cs _ _ _) => some cs
  | _ => none

theorem cel_of {h : H} {b : Nat} {cs : List Value} {es : Nat} {lv : Bool} {an : List Nat} (e : hget h b = some (.cells cs es lv an)) : cel h b = some cs := by
  unfold cel; rw [e]
theorem cel_inv {h : H} {b : Nat} {cs : List Value} (e : cel h b = some cs) : ∃ es lv an, hget h b = some (.cells cs es lv an) := by
  unfold cel at e
  split at e
  · rename_i h'
    cases e
    exact ⟨_, _, _, h'⟩
  · cases e
theorem cel_lt {h : H} {b : Nat} {cs : List Value} (e : cel h b = some cs) : b < h.size := by
  obtain ⟨_, _, _, e⟩ := cel_inv e
  exact lt_of_get e
theorem cel_congr {h h' : H} {b : Nat} (e : hget h' b = hget h b) : cel h' b = cel h b := by unfold cel; rw [e]

/-- The contents are as they were, but for some blocks'. -/
def KeptC (h h' : H) (L : List Nat) : Prop := h.size ≤ h'.size ∧ ∀ b, b < h.size → b ∉ L → cel h' b = cel h b
theorem KeptC.refl (h : H) (L : List Nat) : KeptC h h L := ⟨Nat.le_refl _, fun _ _ _ => rfl⟩
theorem KeptC.trans {h h1 h2 : H} {L : List Nat} (a : KeptC h h1 L) (b : KeptC h1 h2 L) : KeptC h h2 L :=
  ⟨Nat.le_trans a.1 b.1, fun x hx hs => (b.2 x (Nat.lt_of_lt_of_le hx a.1) hs).trans (a.2 x hx hs)⟩
theorem KeptC.weak {h h' : H} {L M : List Nat} (a : KeptC h h' L) (hs : ∀ b ∈ L, b ∈ M) : KeptC h h' M := ⟨a.1, fun b hb h => a.2 b hb fun q => h (hs b q)⟩
theorem Kept.c {h h' : H} {L : List Nat} (a : Kept h h' L) : KeptC h h' L := ⟨a.1, fun b hb hn => cel_congr (a.2 b hb hn)⟩

section
variable {α : Type}

/-- A slice reads as these: ok tells where its row may lie, w how many cells an element has, R what they say. -/
def SlR (ok : Nat → Prop) (w : Nat) (R : H → List Value → α → Prop) (h : H) (v : Value) (xs : List α) : Prop :=
  ((v = .slice none 0 0 ∨ v = .slice (some ⟨0, 0, some 0⟩) 0 0) ∧ xs = []) ∨
  ∃ b o c cs, v = .slice (some ⟨b, o, none⟩) xs.length c ∧ xs.length ≤ c ∧ ok b ∧ cel h b = some cs ∧ ∀ (i : Nat) (x : α), xs[i]? = some x → o + i * w + w ≤ cs.length ∧ R h ((cs.drop (o + i * w)).take w) x

variable {ok ok' : Nat → Prop} {w : Nat} {R R' : H → List Value → α → Prop} {h h' : H} {v : Value} {xs : List α} {L : List Nat}

theorem SlR.len (s : SlR ok w R h v xs) : lenV v = some (.int .i64 xs.length) := by
  rcases s with ⟨rfl | rfl, rfl⟩ | ⟨b, o, c, cs, rfl, _⟩ <;> simp [lenV]

theorem SlR.one (s : SlR ok w R h v xs) : oneCell v = true := by
  rcases s with ⟨rfl | rfl, rfl⟩ | ⟨b, o, c, cs, rfl, _⟩ <;> rfl
theorem SlR.vc (s : SlR ok w R h v xs) : vcells v = some [v] := by
  rcases s with ⟨rfl | rfl, rfl⟩ | ⟨b, o, c, cs, rfl, _⟩ <;> rfl
theorem SlR.same (s : SlR ok w R h v xs) : sameCell v v = true := by
  rcases s with ⟨rfl | rfl, rfl⟩ | ⟨b, o, c, cs, rfl, _⟩ <;> simp [sameCell]
theorem SlR.ne_text (s : SlR ok w R h v xs) : isText v = false := by
  rcases s with ⟨rfl | rfl, rfl⟩ | ⟨b, o, c, cs, rfl, _⟩ <;> rfl

theorem SlR.imp (s : SlR ok w R h v xs) (h1 : ∀ b, b < h.size → ok b → ok' b) (h2 : ∀ cs, ∀ x ∈ xs, R h cs x → R' h' cs x) (h3 : ∀ b cs, ok b → cel h b = some cs → cel h' b = some cs) : SlR ok' w R' h' v xs := by
  rcases s with s | ⟨b, o, c, cs, e, hc, hk, hb, hi⟩
  · exact .inl s
  · refine .inr ⟨b, o, c, cs, e, hc, h1 b (cel_lt hb) hk, h3 b cs hk hb, fun i x hx => ⟨(hi i x hx).1, h2 _ _ (List.mem_of_getElem? hx) (hi i x hx).2⟩⟩

theorem SlR.kc (s : SlR ok w R h v xs) (k : KeptC h h' L) (hL : ∀ b ∈ L, ¬ ok b) (hR : ∀ cs, ∀ x ∈ xs, R h cs x → R h' cs x) : SlR ok w R h' v xs :=
  s.imp (fun _ _ q => q) hR fun b cs hk hb => (k.2 b (cel_lt hb) (fun q => hL b q hk)).trans hb

theorem SlR.row (s : SlR ok w R h v xs) (hne : 0 < xs.length) : ∃ b o c cs, v = .slice (some ⟨b, o, none⟩) xs.length c ∧ xs.length ≤ c ∧ ok b ∧ cel h b = some cs ∧ ∀ (i : Nat) (x : α), xs[i]? = some x → o + i * w + w ≤ cs.length ∧ R h ((cs.drop (o + i * w)).take w) x := by
  rcases s with ⟨_, rfl⟩ | s
  · simp at hne
  · exact s

/-- What an element reads as, where it is read. -/
theorem SlR.at' (s : SlR ok w R h v xs) {i : Nat} {x : α} (hx : xs[i]? = some x) : ∃ b o c cs es lv an, v = .slice (some ⟨b, o, none⟩) xs.length c ∧ ok b ∧ hget h b = some (.cells cs es lv an) ∧ o + i * w + w ≤ cs.length ∧ R h ((cs.drop (o + i * w)).take w) x := by
  have hi := (List.getElem?_eq_some_iff.1 hx).1
  obtain ⟨b, o, c, cs, e, _, hk, hb, hr⟩ := s.row (by omega)
  obtain ⟨es, lv, an, hg⟩ := cel_inv hb
  exact ⟨b, o, c, cs, es, lv, an, e, hk, hg, (hr i x hx).1, (hr i x hx).2⟩

theorem rowKept (h : H) (cs : List Value) (es : Nat) (an : List Nat) : Kept h (newRow h cs es an) [] := ⟨by simp, fun c hc _ => by simp [hc]⟩

/-- A list that is being built: nil, or a row of its own, full to its end. -/
def Bld (ok : Nat → Prop) (w : Nat) (R : H → List Value → α → Prop) (h : H) (v : Value) (xs : List α) : Prop :=
  (v = .slice none 0 0 ∧ xs = []) ∨
  ∃ b cs an, v = .slice (some ⟨b, 0, none⟩) xs.length xs.length ∧ ok b ∧ hget h b = some (.cells cs w true an) ∧ cs.length = xs.length * w ∧ ∀ (i : Nat) (x : α), xs[i]? = some x → R h ((cs.drop (i * w)).take w) x

theorem Bld.sl (s : Bld ok w R h v xs) : SlR ok w R h v xs := by
  rcases s with ⟨e, e'⟩ | ⟨b, cs, an, e, hk, hb, hl, hi⟩
  · exact .inl ⟨.inl e, e'⟩
  · refine .inr ⟨b, 0, xs.length, cs, e, Nat.le_refl _, hk, cel_of hb, fun i x hx => ⟨?_, ?_⟩⟩
    · have hi' := (List.getElem?_eq_some_iff.1 hx).1
      have : (i + 1) * w ≤ xs.length * w := Nat.mul_le_mul_right _ hi'
      rw [Nat.add_mul] at this
      omega
    · rw [Nat.zero_add]; exact hi i x hx

theorem Bld.nil (ok : Nat → Prop) (w : Nat) (R : H → List Value → α → Prop) (h : H) : Bld ok w R h (.slice none 0 0) [] := .inl ⟨rfl, rfl⟩

theorem Bld.ne (s : Bld ok w R h v xs) {b : Nat} (hb : ¬ ok b) : ∀ o n c, v ≠ .slice (some ⟨b, o, none⟩) n c := by
  rintro o n c e
  rcases s with ⟨rfl, _⟩ | ⟨b', cs, an, e', hk, _⟩
  · cases e
  · rw [e'] at e
    injection e with e1
    injection e1 with e1
    injection e1 with e1
    exact hb (e1 ▸ hk)

theorem Bld.kept (s : Bld ok w R h v xs) (k : Kept h h' L) (hL : ∀ b ∈ L, ¬ ok b) (hR : ∀ cs, ∀ x ∈ xs, R h cs x → R h' cs x) : Bld ok w R h' v xs := by
  rcases s with s | ⟨b, cs, an, e, hk, hb, hl, hi⟩
  · exact .inl s
  · exact .inr ⟨b, cs, an, e, hk, (k.get (lt_of_get hb) (fun q => hL b q hk)).trans hb, hl, fun i x hx => hR _ _ (List.mem_of_getElem? hx) (hi i x hx)⟩

theorem Bld.frame (s : Bld ok w R h v xs) (k : Kept h h' []) (hR : ∀ cs x, R h cs x → R h' cs x) : Bld ok w R h' v xs :=
  s.kept k (by simp) fun cs x _ q => hR cs x q

theorem drop_take_append (cs new : List Value) (n w i : Nat) (hl : cs.length = n * w) (hi : i < n) : ((cs ++ new).drop (i * w)).take w = (cs.drop (i * w)).take w := by
  have h1 : (i + 1) * w ≤ n * w := Nat.mul_le_mul_right _ hi
  rw [Nat.add_mul] at h1
  rw [List.drop_append, List.take_append]
  have h2 : (List.drop (i * w) cs).length = n * w - i * w := by rw [List.length_drop, hl]
  have h3 : w - (List.drop (i * w) cs).length = 0 := by omega
  rw [h3, List.take_zero, List.append_nil]

theorem take_at_end (cs new : List Value) (n w : Nat) (hl : cs.length = n * w) (hn : new.length = w) : ((cs ++ new).drop (n * w)).take w = new := by
  rw [← hl, List.drop_left]
  exact List.take_of_length_le (by omega)

theorem take_in_end (cs new : List Value) (n w j : Nat) (hl : cs.length = n * w) : ((cs ++ new).drop ((n + j) * w)).take w = (new.drop (j * w)).take w := by
  rw [Nat.add_mul, ← hl, ← List.drop_drop, List.drop_left]

/-- Elements put behind. -/
theorem Bld.appN {bytes : Nat} (s : Bld ok w R h v xs) {new : List Value} {ys : List α} (hn : new.length = ys.length * w) (hb : (xs.length + ys.length) * bytes ≤ 2 ^ 47)
    (hok : ok h.size) (hR : ∀ h', KeptC h h' [] → ∀ cs, ∀ y ∈ xs, R h cs y → R h' cs y) (hx : ∀ h', KeptC h h' [] → ∀ (i : Nat) (y : α), ys[i]? = some y → R h' ((new.drop (i * w)).take w) y) :
    Ans (appendTo h w bytes v ys.length new) fun v' h' => Bld ok w R h' v' (xs ++ ys) ∧ KeptC h h' [] ∧ h'.size ≤ h.size + 1 ∧ (∀ b, b < h.size → (∀ o n c, v ≠ .slice (some ⟨b, o, none⟩) n c) → hget h' b = hget h b) ∧ (v' = v ∨ ∃ n c, v' = .slice (some ⟨h.size, 0, none⟩) n c) := by
  by_cases hz : ys.length = 0
  · have hys : ys = [] := List.length_eq_zero_iff.1 hz
    subst hys
    have e : appendTo h w bytes v 0 new = some (v, h) := by
      rcases s with ⟨rfl, rfl⟩ | ⟨b, cs, an, rfl, _⟩ <;> simp [appendTo]
    exact ⟨v, h, e, by simpa using s, KeptC.refl _ _, by omega, fun _ _ _ => rfl, .inl rfl⟩
  rcases s with ⟨rfl, rfl⟩ | ⟨b, cs, an, rfl, hk, hg, hl, hi⟩
  · have kc : KeptC h (newRow h new w []) [] := ⟨by simp, fun c hc _ => cel_congr (by simp [hc])⟩
    have hb' : ys.length * bytes ≤ 140737488355328 := by simpa using hb
    have hz' : ¬ ys = [] := fun e => hz (by rw [e]; rfl)
    refine ⟨.slice (some ⟨h.size, 0, none⟩) ys.length ys.length, newRow h new w [], ?_, ?_, kc, by simp, fun c hc _ => by simp [hc], .inr ⟨_, _, rfl⟩⟩
    · simp [appendTo, hb', hz']
    · exact .inr ⟨h.size, new, [], rfl, hok, by simp, by simpa using hn, fun i y hy => hx _ kc i y (by simpa using hy)⟩
  · have hbs := lt_of_get hg
    have kc : KeptC h (newRow (h.setIfInBounds b (.cells cs w false an)) (cs ++ new) w (b :: an)) [] := by
      refine ⟨by simp, fun c hc _ => ?_⟩
      by_cases e : b = c
      · subst e
        rw [cel_of hg]
        exact cel_of (es := w) (lv := false) (an := an) (by simp [hbs])
      · exact cel_congr (by simp [hc, e])
    have e2 : cs.take (xs.length * w) = cs := List.take_of_length_le (by omega)
    refine ⟨.slice (some ⟨h.size, 0, none⟩) (xs.length + ys.length) (xs.length + ys.length), newRow (h.setIfInBounds b (.cells cs w false an)) (cs ++ new) w (b :: an), ?_, ?_, kc, by simp, ?_, .inr ⟨_, _, rfl⟩⟩
    · have hb' : (xs.length + ys.length) * bytes ≤ 140737488355328 := by simpa using hb
      have hz' : ¬ ys = [] := fun e => hz (by rw [e]; rfl)
      have hnl : ¬ xs.length + ys.length ≤ xs.length := by omega
      simp [appendTo, hb', hg, hl, e2, hnl, hz']
    · refine .inr ⟨h.size, cs ++ new, b :: an, by simp, hok, by simp, by simp [hl, hn, Nat.add_mul], ?_⟩
      intro i y hy
      by_cases hi' : i < xs.length
      · rw [List.getElem?_append_left hi'] at hy
        rw [drop_take_append cs new xs.length w i hl hi']
        exact hR _ kc _ _ (List.mem_of_getElem? hy) (hi i y hy)
      · rw [List.getElem?_append_right (by omega)] at hy
        have := take_in_end cs new xs.length w (i - xs.length) hl
        rw [show xs.length + (i - xs.length) = i by omega] at this
        rw [this]
        exact hx _ kc _ _ hy
    · intro c hc hn'
      have : ¬ b = c := fun e => hn' 0 _ _ (by rw [e])
      simp [hc, this]

/-- One element put behind. -/
theorem Bld.app {bytes : Nat} (s : Bld ok w R h v xs) {new : List Value} {x : α} (hn : new.length = w) (hb : (xs.length + 1) * bytes ≤ 2 ^ 47)
    (hok : ok h.size) (hR : ∀ h', KeptC h h' [] → ∀ cs, ∀ y ∈ xs, R h cs y → R h' cs y) (hx : ∀ h', KeptC h h' [] → R h' new x) :
    Ans (appendTo h w bytes v 1 new) fun v' h' => Bld ok w R h' v' (xs ++ [x]) ∧ KeptC h h' [] ∧ h'.size ≤ h.size + 1 ∧ (∀ b, b < h.size → (∀ o n c, v ≠ .slice (some ⟨b, o, none⟩) n c) → hget h' b = hget h b) ∧ (v' = v ∨ ∃ n c, v' = .slice (some ⟨h.size, 0, none⟩) n c) := by
  refine s.appN (ys := [x]) (by simpa using hn) hb hok hR fun h' k i y hy => ?_
  cases i with
  | succ i => simp at hy
  | zero =>
    simp at hy
    subst hy
    rw [Nat.zero_mul, List.drop_zero, List.take_of_length_le (by omega)]
    exact hx h' k

/-- A slice of what nobody changes, handed in. -/
theorem SlR.src (s : SlR ok w R h v xs) (hw : 0 < w) (hcs : ∀ cs, ∀ x ∈ xs, R h cs x → cs.length = w) : ∃ new, srcOf h w v = some (xs.length, new) ∧ new.length = xs.length * w ∧ ∀ (i : Nat) (x : α), xs[i]? = some x → R h ((new.drop (i * w)).take w) x := by
  rcases s with ⟨rfl | rfl, rfl⟩ | ⟨b, o, c, cs, rfl, hc, hk, hb, hi⟩
  · exact ⟨[], by simp [srcOf], by simp, by simp⟩
  · exact ⟨[], by simp [srcOf], by simp, by simp⟩
  · obtain ⟨es', lv, an, hg⟩ := cel_inv hb
    by_cases hz : xs.length = 0
    · have hx : xs = [] := List.length_eq_zero_iff.1 hz
      subst hx
      exact ⟨[], by simp [srcOf], by simp, by simp⟩
    · have hlast := hi (xs.length - 1) xs[xs.length - 1] (List.getElem?_eq_getElem (by omega))
      have hle : o + xs.length * w ≤ cs.length := by
        have h1 := hlast.1
        have : (xs.length - 1) * w + w = xs.length * w := by
          rw [← Nat.succ_mul]; congr 1; omega
        omega
      refine ⟨(cs.drop o).take (xs.length * w), ?_, ?_, ?_⟩
      · simp [srcOf, hz, rd, hg, hle]
      · rw [List.length_take, List.length_drop]; omega
      · intro i x hx
        have hi' := (List.getElem?_eq_some_iff.1 hx).1
        have h1 : (i + 1) * w ≤ xs.length * w := Nat.mul_le_mul_right _ hi'
        rw [Nat.add_mul] at h1
        have := (hi i x hx).2
        rw [List.drop_take, List.take_take, List.drop_drop, Nat.min_eq_left (by omega)]
        exact this

end

end Go.Ev

/- Changes, parts, items: as data, and as memory holds them. -/
set_option linter.unusedSimpArgs false
set_option linter.unusedVariables false
namespace Go.Proofs.Ytkkagpchcefidaa
open Go.Ev

structure Chg where
  kind : Int
  place : ByteArray
  data : ByteArray
  ver : Int
structure Tgd where
  chg : Chg
  tags : List Int
structure Seen where
  place : ByteArray
  data : ByteArray
  ver : Int
structure Prt where
  id : Int
  stamp : Int
  place : ByteArray
  kind : Int
  nodes : List Seen
structure Itm where
  stamp : Int
  after : Int
  marker : Bool
  chgs : List Tgd
  prts : List Prt

def Chg.cells (c : Chg) : List Value := [.int .i64 c.kind, .string c.place, .string c.data, .int .i64 c.ver]
def Seen.cells (s : Seen) : List Value := [.string s.place, .string s.data, .int .i64 s.ver]

def IntC (h : H) (cs : List Value) (n : Int) : Prop := cs = [.int .i64 n]
def SeenC (h : H) (cs : List Value) (s : Seen) : Prop := cs = s.cells
def TgdC (ok : Nat → Prop) (h : H) (cs : List Value) (t : Tgd) : Prop := ∃ v, cs = [.int .i64 t.chg.kind, .string t.chg.place, .string t.chg.data, .int .i64 t.chg.ver, v] ∧ SlR ok 1 IntC h v t.tags
def PrtC (ok : Nat → Prop) (h : H) (cs : List Value) (p : Prt) : Prop := ∃ v, cs = [.int .i64 p.id, .int .i64 p.stamp, .string p.place, .int .i64 p.kind, v] ∧ SlR ok 3 SeenC h v p.nodes
def ItmC (ok : Nat → Prop) (h : H) (cs : List Value) (x : Itm) : Prop := ∃ v w, cs = [.int .i64 x.stamp, .int .i64 x.after, .bool x.marker, v, w] ∧ SlR ok 5 (TgdC ok) h v x.chgs ∧ SlR ok 5 (PrtC ok) h w x.prts

section
variable {ok ok' : Nat → Prop} {h h' : H} {cs : List Value} {L : List Nat}

theorem IntC.kc {n : Int} (s : IntC h cs n) : IntC h' cs n := s
theorem SeenC.kc {n : Seen} (s : SeenC h cs n) : SeenC h' cs n := s

theorem SlInt.imp {v : Value} {xs : List Int} (s : SlR ok 1 IntC h v xs) (h1 : ∀ b, b < h.size → ok b → ok' b) (h3 : ∀ b cs, ok b → cel h b = some cs → cel h' b = some cs) : SlR ok' 1 IntC h' v xs :=
  s.imp h1 (fun _ _ _ q => q) h3
theorem SlSeen.imp {v : Value} {xs : List Seen} (s : SlR ok 3 SeenC h v xs) (h1 : ∀ b, b < h.size → ok b → ok' b) (h3 : ∀ b cs, ok b → cel h b = some cs → cel h' b = some cs) : SlR ok' 3 SeenC h' v xs :=
  s.imp h1 (fun _ _ _ q => q) h3
theorem TgdC.imp {t : Tgd} (s : TgdC ok h cs t) (h1 : ∀ b, b < h.size → ok b → ok' b) (h3 : ∀ b cs, ok b → cel h b = some cs → cel h' b = some cs) : TgdC ok' h' cs t := by
  obtain ⟨v, e, s⟩ := s
  exact ⟨v, e, SlInt.imp s h1 h3⟩
theorem PrtC.imp {t : Prt} (s : PrtC ok h cs t) (h1 : ∀ b, b < h.size → ok b → ok' b) (h3 : ∀ b cs, ok b → cel h b = some cs → cel h' b = some cs) : PrtC ok' h' cs t := by
  obtain ⟨v, e, s⟩ := s
  exact ⟨v, e, SlSeen.imp s h1 h3⟩
theorem SlTgd.imp {v : Value} {xs : List Tgd} (s : SlR ok 5 (TgdC ok) h v xs) (h1 : ∀ b, b < h.size → ok b → ok' b) (h3 : ∀ b cs, ok b → cel h b = some cs → cel h' b = some cs) : SlR ok' 5 (TgdC ok') h' v xs :=
  SlR.imp s h1 (fun _ _ _ q => TgdC.imp q h1 h3) h3
theorem SlPrt.imp {v : Value} {xs : List Prt} (s : SlR ok 5 (PrtC ok) h v xs) (h1 : ∀ b, b < h.size → ok b → ok' b) (h3 : ∀ b cs, ok b → cel h b = some cs → cel h' b = some cs) : SlR ok' 5 (PrtC ok') h' v xs :=
  SlR.imp s h1 (fun _ _ _ q => PrtC.imp q h1 h3) h3
theorem ItmC.imp {x : Itm} (s : ItmC ok h cs x) (h1 : ∀ b, b < h.size → ok b → ok' b) (h3 : ∀ b cs, ok b → cel h b = some cs → cel h' b = some cs) : ItmC ok' h' cs x := by
  obtain ⟨v, w, e, s1, s2⟩ := s
  exact ⟨v, w, e, SlTgd.imp s1 h1 h3, SlPrt.imp s2 h1 h3⟩
theorem SlItm.imp {v : Value} {xs : List Itm} (s : SlR ok 5 (ItmC ok) h v xs) (h1 : ∀ b, b < h.size → ok b → ok' b) (h3 : ∀ b cs, ok b → cel h b = some cs → cel h' b = some cs) : SlR ok' 5 (ItmC ok') h' v xs :=
  SlR.imp s h1 (fun _ _ _ q => ItmC.imp q h1 h3) h3

theorem keep_of (k : KeptC h h' L) (hL : ∀ b ∈ L, ¬ ok b) : ∀ b cs, ok b → cel h b = some cs → cel h' b = some cs :=
  fun b cs hk hb => (k.2 b (cel_lt hb) (fun q => hL b q hk)).trans hb
end

end Go.Proofs.Ytkkagpchcefidaa

/- Clone, copiedChanges, copiedParts: copies in new memory. -/
set_option linter.unusedSimpArgs false
set_option linter.unusedVariables false
namespace Go.Proofs.Ytkkagpchcefidaa
open Go.Ev

/-- Built in memory that is newer than N. -/
abbrev since (N : Nat) : Nat → Prop := fun b => N ≤ b

def CloneP {α : Type} (w : Nat) (R : H → List Value → α → Prop) (h : H) (xs : List α) (v : Value) (h' : H) : Prop := Bld (since h.size) w R h' v xs ∧ Kept h h' []

theorem clone_core {α : Type} {w bytes : Nat} {R : H → List Value → α → Prop} {ok : Nat → Prop} {h : H} {v : Value} {xs : List α} (hw : 0 < w) (s : SlR ok w R h v xs)
    (hb : xs.length * bytes ≤ 2 ^ 47) (hcs : ∀ h cs x, R h cs x → cs.length = w ∧ cs.all oneCell = true) (hR : ∀ h h' cs x, KeptC h h' [] → R h cs x → R h' cs x) :
    ∃ new, srcOf (Ev.newRow h [] w []) w v = some (xs.length, new) ∧ new.all oneCell = true ∧ Ans (appendTo (Ev.newRow h [] w []) w bytes (.slice (some ⟨h.size, 0, none⟩) 0 0) xs.length new) (CloneP w R h xs) := by
  have k1 : Kept h (Ev.newRow h [] w []) [] := ⟨by simp, fun c hc _ => by simp [hc]⟩
  have s1 : SlR ok w R (Ev.newRow h [] w []) v xs := s.kc k1.c (by simp) fun cs x _ q => hR _ _ cs x k1.c q
  obtain ⟨new, e1, e2, e3⟩ := s1.src hw (fun cs x _ q => (hcs _ cs x q).1)
  refine ⟨new, e1, ?_, ?_⟩
  · rw [List.all_eq_true]
    intro c hc
    obtain ⟨j, hj, rfl⟩ := List.getElem_of_mem hc
    have hi : j / w < xs.length := by
      rw [e2] at hj
      exact Nat.div_lt_of_lt_mul (by rw [Nat.mul_comm]; exact hj)
    have hr := e3 (j / w) _ (List.getElem?_eq_getElem hi)
    have := List.all_eq_true.1 (hcs _ _ _ hr).2
    refine this _ ?_
    have hm : j % w < w := Nat.mod_lt _ hw
    have hjd : j / w * w + j % w = j := by rw [Nat.mul_comm]; exact Nat.div_add_mod j w
    rw [List.mem_iff_getElem?]
    refine ⟨j % w, ?_⟩
    rw [List.getElem?_take, if_pos hm, List.getElem?_drop, hjd]
    exact List.getElem?_eq_getElem hj
  · have b0 : Bld (since h.size) w R (Ev.newRow h [] w []) (.slice (some ⟨h.size, 0, none⟩) 0 0) ([] : List α) :=
      .inr ⟨h.size, [], [], rfl, Nat.le_refl _, by simp, by simp, by simp⟩
    refine (b0.appN (ys := xs) (bytes := bytes) e2 (by simpa using hb) (by simp [since]) (by simp) (fun h' k i y hy => hR _ _ _ _ k (e3 i y hy))).mono ?_
    rintro v' h' ⟨q1, q2, q3, q4, q5⟩
    refine ⟨by simpa using q1, ?_⟩
    refine ⟨by have := q2.1; simp at this; omega, fun c hc _ => ?_⟩
    rw [q4 c (by simp; omega) (fun o n c' e => by injection e with e; injection e with e; injection e with e; omega)]
    simp [hc]

theorem int_cells (h : H) (cs : List Value) (x : Int) (r : IntC h cs x) : cs.length = 1 ∧ cs.all oneCell = true := by
  have e : cs = [.int .i64 x] := r
  subst e; exact ⟨rfl, rfl⟩
theorem seen_cells (h : H) (cs : List Value) (x : Seen) (r : SeenC h cs x) : cs.length = 3 ∧ cs.all oneCell = true := by
  have e : cs = x.cells := r
  subst e; exact ⟨rfl, rfl⟩

theorem isnil_some {ok : Nat → Prop} {α : Type} {w : Nat} {R : H → List Value → α → Prop} {h : H} {v : Value} {xs : List α} (s : SlR ok w R h v xs) : (v = .slice none 0 0 ∧ xs = []) ∨ ∃ a n c, v = .slice (some a) n c := by
  rcases s with ⟨rfl | rfl, rfl⟩ | ⟨b, o, c, cs, rfl, _⟩
  · exact .inl ⟨rfl, rfl⟩
  · exact .inr ⟨_, _, _, rfl⟩
  · exact .inr ⟨_, _, _, rfl⟩

theorem cloneI_spec {F : Nat} (hF : 1 ≤ F) {ok : Nat → Prop} {h : H} {v : Value} {xs : List Int} (s : SlR ok 1 IntC h v xs) (hb : xs.length ≤ 17592186044416) : Ans (cf F 61 [v] h) (CloneP 1 IntC h xs) := by
  obtain ⟨F, rfl⟩ : ∃ G, F = G + 1 := ⟨F - 1, by omega⟩
  rw [cf_step (a := a61) rfl rfl (by simp [a61])]
  obtain ⟨new, e1, e2, e3⟩ := clone_core (bytes := 8) (by omega) s (by omega) int_cells (fun _ _ _ _ _ q => q)
  rcases isnil_some s with ⟨rfl, rfl⟩ | ⟨a, n, c, rfl⟩
  · simp (disch := first | omega | (simp only [newRow_size, Array.size_setIfInBounds, Array.size_push]; done) | (simp only [newRow_size, Array.size_setIfInBounds, Array.size_push]; omega)) [a61, r61_0, r61_1, r61_2, eqT, eqF, neT, neF, ltT, ltF, leT, leF, nltT, nltF, nleT, nleF, nneT, nneF, flipX, List.getElem?_cons_zero, List.getElem?_cons_succ]
    exact Ans.of ⟨Bld.nil _ _ _ _, Kept.refl _ _⟩
  · simp (disch := first | omega | (simp only [newRow_size, Array.size_setIfInBounds, Array.size_push]; done) | (simp only [newRow_size, Array.size_setIfInBounds, Array.size_push]; omega)) [a61, r61_0, r61_1, r61_3, eqT, eqF, neT, neF, ltT, ltF, leT, leF, nltT, nltF, nleT, nleF, nneT, nneF, flipX, List.getElem?_cons_zero, List.getElem?_cons_succ, e1, e2]
    refine Ans.next e3 ?_
    intro v' h' q
    simp (disch := first | omega | (simp only [newRow_size, Array.size_setIfInBounds, Array.size_push]; done) | (simp only [newRow_size, Array.size_setIfInBounds, Array.size_push]; omega)) []
    exact Ans.of q

theorem cloneS_spec {F : Nat} (hF : 1 ≤ F) {ok : Nat → Prop} {h : H} {v : Value} {xs : List Seen} (s : SlR ok 3 SeenC h v xs) (hb : xs.length ≤ 3518437208883) : Ans (cf F 62 [v] h) (CloneP 3 SeenC h xs) := by
  obtain ⟨F, rfl⟩ : ∃ G, F = G + 1 := ⟨F - 1, by omega⟩
  rw [cf_step (a := a62) rfl rfl (by simp [a62])]
  obtain ⟨new, e1, e2, e3⟩ := clone_core (bytes := 40) (by omega) s (by omega) seen_cells (fun _ _ _ _ _ q => q)
  rcases isnil_some s with ⟨rfl, rfl⟩ | ⟨a, n, c, rfl⟩
  · simp (disch := first | omega | (simp only [newRow_size, Array.size_setIfInBounds, Array.size_push]; done) | (simp only [newRow_size, Array.size_setIfInBounds, Array.size_push]; omega)) [a62, r62_0, r62_1, r62_2, eqT, eqF, neT, neF, ltT, ltF, leT, leF, nltT, nltF, nleT, nleF, nneT, nneF, flipX, List.getElem?_cons_zero, List.getElem?_cons_succ]
    exact Ans.of ⟨Bld.nil _ _ _ _, Kept.refl _ _⟩
  · simp (disch := first | omega | (simp only [newRow_size, Array.size_setIfInBounds, Array.size_push]; done) | (simp only [newRow_size, Array.size_setIfInBounds, Array.size_push]; omega)) [a62, r62_0, r62_1, r62_3, eqT, eqF, neT, neF, ltT, ltF, leT, leF, nltT, nltF, nleT, nleF, nneT, nneF, flipX, List.getElem?_cons_zero, List.getElem?_cons_succ, e1, e2]
    refine Ans.next e3 ?_
    intro v' h' q
    simp (disch := first | omega | (simp only [newRow_size, Array.size_setIfInBounds, Array.size_push]; done) | (simp only [newRow_size, Array.size_setIfInBounds, Array.size_push]; omega)) []
    exact Ans.of q

end Go.Proofs.Ytkkagpchcefidaa

/- copiedChanges, copiedParts; the document's copies. -/
set_option linter.unusedSimpArgs false
set_option linter.unusedVariables false
namespace Go.Proofs.Ytkkagpchcefidaa
open Go.Ev

theorem take_snoc {α : Type} {xs : List α} {i : Nat} {x : α} (hx : xs[i]? = some x) : xs.take (i + 1) = xs.take i ++ [x] := by
  rw [List.take_add_one, hx]; rfl

theorem since_lt {N : Nat} {h : H} (hN : N ≤ h.size) : since N h.size := hN

/-- A list of tagged changes of which each list of tags is short. -/
def ShortT (xs : List Tgd) : Prop := xs.length ≤ 1954687338268 ∧ ∀ t ∈ xs, t.tags.length ≤ 17592186044416
def ShortP (xs : List Prt) : Prop := xs.length ≤ 2199023255552 ∧ ∀ t ∈ xs, t.nodes.length ≤ 3518437208883

def CopyT (h : H) (xs : List Tgd) (v : Value) (h' : H) : Prop := Bld (since h.size) 5 (TgdC (since h.size)) h' v xs ∧ Kept h h' []
def CopyP (h : H) (xs : List Prt) (v : Value) (h' : H) : Prop := Bld (since h.size) 5 (PrtC (since h.size)) h' v xs ∧ Kept h h' []

theorem copiedChanges_spec {F : Nat} (hF : 17592186044420 ≤ F) {ok : Nat → Prop} {h : H} {v : Value} {xs : List Tgd} (s : SlR ok 5 (TgdC ok) h v xs) (hs : ShortT xs) : Ans (cf F 44 [v] h) (CopyT h xs) := by
  obtain ⟨F, rfl⟩ : ∃ G, F = G + 1 := ⟨F - 1, by omega⟩
  obtain ⟨hs1, hs2⟩ := hs
  rw [cf_step (a := a44) rfl rfl (by simp [a44])]
  have hl := s.len
  simp (disch := first | omega | (simp only [newRow_size, Array.size_setIfInBounds, Array.size_push]; done) | (simp only [newRow_size, Array.size_setIfInBounds, Array.size_push]; omega)) [a44, r44_0, r44_1, r44_2, hl, eqT, eqF, neT, neF, ltT, ltF, leT, leF, nltT, nltF, nleT, nleF, nneT, nneF, flipX, List.getElem?_cons_zero, List.getElem?_cons_succ]
  refine loop_rule (fun m e g => ∃ (i : Nat) (u : Value), m = xs.length - i ∧ i ≤ xs.length ∧ e = [(3, u), (6, v), (7, .int .i64 xs.length), (8, .int .i64 i)] ∧ Kept h g [] ∧ Bld (since h.size) 5 (TgdC (since h.size)) g u (xs.take i)) ?_ _ xs.length _ _ (by omega) ⟨0, _, by omega, by omega, rfl, Kept.refl _ _, Bld.nil _ _ _ _⟩
  rintro m e g again ⟨i, u, rfl, hi, rfl, kg, bu⟩ ih
  by_cases hlt : i < xs.length
  · obtain ⟨x, hx⟩ : ∃ x, xs[i]? = some x := ⟨_, List.getElem?_eq_getElem hlt⟩
    have sg := SlTgd.imp s (ok' := ok) (fun _ _ q => q) (keep_of kg.c (by simp))
    obtain ⟨b, o, c, cs, es, lv, an, rfl, hk, hg, hle, vt, hat, st⟩ := sg.at' hx
    have hgs := lt_of_get hg
    have hto := st.one
    simp only [oneCell] at hto
    have hw : IntKind.i64.wrap ((i : Int) + 1) = ((i + 1 : Nat) : Int) := by rw [IntKind.wrap_i64]; omega
    simp (disch := first | omega | (simp only [newRow_size, Array.size_setIfInBounds, Array.size_push]; done) | (simp only [newRow_size, Array.size_setIfInBounds, Array.size_push]; omega)) [l44_8, r44_3, r44_4, hg, hat, hto, eqT, eqF, neT, neF, ltT, ltF, leT, leF, nltT, nltF, nleT, nleF, nneT, nneF, flipX, List.getElem?_cons_zero, List.getElem?_cons_succ, r44_5]
    have yg := kg.1
    refine Ans.next (cloneI_spec (F := F) (by omega) (SlInt.imp st (ok' := ok) (fun _ _ q => q) (keep_of (rowKept _ _ _ _).c (by simp))) (hs2 x (List.mem_of_getElem? hx))) ?_
    rintro v2 h2 ⟨bt, k2⟩
    have y2 := k2.1
    have g2 := fun c => k2.get (b := c)
    simp only [List.not_mem_nil, not_false_eq_true, forall_const, newRow_size] at g2 y2
    have hto2 := bt.sl.one
    have hvc2 := bt.sl.vc
    simp only [oneCell] at hto2
    simp only [vcells] at hvc2
    simp (disch := first | omega | (simp only [newRow_size, Array.size_setIfInBounds, Array.size_push]; done) | (simp only [newRow_size, Array.size_setIfInBounds, Array.size_push]; omega)) [g2, hto2, hvc2, eqT, eqF, neT, neF, ltT, ltF, leT, leF, nltT, nltF, nleT, nleF, nneT, nneF, flipX, List.getElem?_cons_zero, List.getElem?_cons_succ, r44_6, srcOf]
    have kE : Kept h (Ev.newRow (Array.setIfInBounds h2 g.size (.cells [.int .i64 x.chg.kind, .string x.chg.place, .string x.chg.data, .int .i64 x.chg.ver, v2] 0 true [])) [.int .i64 x.chg.kind, .string x.chg.place, .string x.chg.data, .int .i64 x.chg.ver, v2] 5 []) [] := ⟨(by first | omega | (simp only [newRow_size, Array.size_setIfInBounds, Array.size_push]; done) | (simp only [newRow_size, Array.size_setIfInBounds, Array.size_push]; omega)), fun c hc _ => by
      simp (disch := first | omega | (simp only [newRow_size, Array.size_setIfInBounds, Array.size_push]; done) | (simp only [newRow_size, Array.size_setIfInBounds, Array.size_push]; omega)) [g2]
      exact kg.get hc (by simp)⟩
    have bE : Bld (since h.size) 5 (TgdC (since h.size)) (Ev.newRow (Array.setIfInBounds h2 g.size (.cells [.int .i64 x.chg.kind, .string x.chg.place, .string x.chg.data, .int .i64 x.chg.ver, v2] 0 true [])) [.int .i64 x.chg.kind, .string x.chg.place, .string x.chg.data, .int .i64 x.chg.ver, v2] 5 []) u (xs.take i) := by
      refine bu.kept (L := []) ⟨(by first | omega | (simp only [newRow_size, Array.size_setIfInBounds, Array.size_push]; done) | (simp only [newRow_size, Array.size_setIfInBounds, Array.size_push]; omega)), fun c hc _ => by simp (disch := first | omega | (simp only [newRow_size, Array.size_setIfInBounds, Array.size_push]; done) | (simp only [newRow_size, Array.size_setIfInBounds, Array.size_push]; omega)) [g2]⟩ (by simp) (fun cs t _ q => TgdC.imp q (fun _ _ q => q) (keep_of (L := []) ⟨(by first | omega | (simp only [newRow_size, Array.size_setIfInBounds, Array.size_push]; done) | (simp only [newRow_size, Array.size_setIfInBounds, Array.size_push]; omega)), fun c hc _ => cel_congr (by simp (disch := first | omega | (simp only [newRow_size, Array.size_setIfInBounds, Array.size_push]; done) | (simp only [newRow_size, Array.size_setIfInBounds, Array.size_push]; omega)) [g2])⟩ (by simp)))
    have sE : SlR (since h.size) 1 IntC (Ev.newRow (Array.setIfInBounds h2 g.size (.cells [.int .i64 x.chg.kind, .string x.chg.place, .string x.chg.data, .int .i64 x.chg.ver, v2] 0 true [])) [.int .i64 x.chg.kind, .string x.chg.place, .string x.chg.data, .int .i64 x.chg.ver, v2] 5 []) v2 x.tags := by
      refine SlInt.imp bt.sl (fun b _ hb => ?_) (fun b cs hb hc => ?_)
      · have : g.size + 1 ≤ b := by simpa using hb
        show h.size ≤ b
        omega
      · have hb' : g.size + 1 ≤ b := by simpa using hb
        have := cel_lt hc
        rw [← hc]
        exact cel_congr (by simp (disch := first | omega | (simp only [newRow_size, Array.size_setIfInBounds, Array.size_push]; done) | (simp only [newRow_size, Array.size_setIfInBounds, Array.size_push]; omega)) [])
    refine Ans.next (bE.app (x := x) (bytes := 72) rfl ?_ ?_ ?_ ?_) ?_
    · rw [List.length_take]; omega
    · show h.size ≤ _; exact (by first | omega | (simp only [newRow_size, Array.size_setIfInBounds, Array.size_push]; done) | (simp only [newRow_size, Array.size_setIfInBounds, Array.size_push]; omega))
    · exact fun h' k cs y _ q => TgdC.imp q (fun _ _ q => q) (keep_of k (by simp))
    · exact fun h' k => ⟨v2, rfl, SlInt.imp sE (fun _ _ q => q) (keep_of k (by simp))⟩
    rintro u' h3 ⟨b3, k3, y3, g3, _⟩
    simp (disch := first | omega | (simp only [newRow_size, Array.size_setIfInBounds, Array.size_push]; done) | (simp only [newRow_size, Array.size_setIfInBounds, Array.size_push]; omega)) [r44_7, hw, eqT, eqF, neT, neF, ltT, ltF, leT, leF, nltT, nltF, nleT, nleF, nneT, nneF, flipX, List.getElem?_cons_zero, List.getElem?_cons_succ]
    refine ih (xs.length - (i + 1)) _ _ (by omega) ⟨i + 1, u', rfl, by omega, rfl, ?_, by rw [take_snoc hx]; exact b3⟩
    exact ⟨by have := kE.1; have := k3.1; omega, fun c hc _ => (g3 c (by have := kE.1; omega) (bE.ne (by simp; omega))).trans (kE.get hc (by simp))⟩
  · have hxi : i = xs.length := by omega
    subst hxi
    rw [List.take_length] at bu
    simp (disch := first | omega | (simp only [newRow_size, Array.size_setIfInBounds, Array.size_push]; done) | (simp only [newRow_size, Array.size_setIfInBounds, Array.size_push]; omega)) [l44_8, r44_3, r44_9, eqT, eqF, neT, neF, ltT, ltF, leT, leF, nltT, nltF, nleT, nleF, nneT, nneF, flipX, List.getElem?_cons_zero, List.getElem?_cons_succ]
    exact Ans.of ⟨bu, kg⟩

theorem copiedParts_spec {F : Nat} (hF : 17592186044420 ≤ F) {ok : Nat → Prop} {h : H} {v : Value} {xs : List Prt} (s : SlR ok 5 (PrtC ok) h v xs) (hs : ShortP xs) : Ans (cf F 45 [v] h) (CopyP h xs) := by
  obtain ⟨F, rfl⟩ : ∃ G, F = G + 1 := ⟨F - 1, by omega⟩
  obtain ⟨hs1, hs2⟩ := hs
  rw [cf_step (a := a45) rfl rfl (by simp [a45])]
  have hl := s.len
  simp (disch := first | omega | (simp only [newRow_size, Array.size_setIfInBounds, Array.size_push]; done) | (simp only [newRow_size, Array.size_setIfInBounds, Array.size_push]; omega)) [a45, r45_0, r45_1, r45_2, hl, eqT, eqF, neT, neF, ltT, ltF, leT, leF, nltT, nltF, nleT, nleF, nneT, nneF, flipX, List.getElem?_cons_zero, List.getElem?_cons_succ]
  refine loop_rule (fun m e g => ∃ (i : Nat) (u : Value), m = xs.length - i ∧ i ≤ xs.length ∧ e = [(3, u), (6, v), (7, .int .i64 xs.length), (8, .int .i64 i)] ∧ Kept h g [] ∧ Bld (since h.size) 5 (PrtC (since h.size)) g u (xs.take i)) ?_ _ xs.length _ _ (by omega) ⟨0, _, by omega, by omega, rfl, Kept.refl _ _, Bld.nil _ _ _ _⟩
  rintro m e g again ⟨i, u, rfl, hi, rfl, kg, bu⟩ ih
  by_cases hlt : i < xs.length
  · obtain ⟨x, hx⟩ : ∃ x, xs[i]? = some x := ⟨_, List.getElem?_eq_getElem hlt⟩
    have sg := SlPrt.imp s (ok' := ok) (fun _ _ q => q) (keep_of kg.c (by simp))
    obtain ⟨b, o, c, cs, es, lv, an, rfl, hk, hg, hle, vt, hat, st⟩ := sg.at' hx
    have hgs := lt_of_get hg
    have hto := st.one
    simp only [oneCell] at hto
    have hw : IntKind.i64.wrap ((i : Int) + 1) = ((i + 1 : Nat) : Int) := by rw [IntKind.wrap_i64]; omega
    simp (disch := first | omega | (simp only [newRow_size, Array.size_setIfInBounds, Array.size_push]; done) | (simp only [newRow_size, Array.size_setIfInBounds, Array.size_push]; omega)) [l45_8, r45_3, r45_4, hg, hat, hto, eqT, eqF, neT, neF, ltT, ltF, leT, leF, nltT, nltF, nleT, nleF, nneT, nneF, flipX, List.getElem?_cons_zero, List.getElem?_cons_succ, r45_5]
    have yg := kg.1
    refine Ans.next (cloneS_spec (F := F) (by omega) (SlSeen.imp st (ok' := ok) (fun _ _ q => q) (keep_of (rowKept _ _ _ _).c (by simp))) (hs2 x (List.mem_of_getElem? hx))) ?_
    rintro v2 h2 ⟨bt, k2⟩
    have y2 := k2.1
    have g2 := fun c => k2.get (b := c)
    simp only [List.not_mem_nil, not_false_eq_true, forall_const, newRow_size] at g2 y2
    have hto2 := bt.sl.one
    have hvc2 := bt.sl.vc
    simp only [oneCell] at hto2
    simp only [vcells] at hvc2
    simp (disch := first | omega | (simp only [newRow_size, Array.size_setIfInBounds, Array.size_push]; done) | (simp only [newRow_size, Array.size_setIfInBounds, Array.size_push]; omega)) [g2, hto2, hvc2, eqT, eqF, neT, neF, ltT, ltF, leT, leF, nltT, nltF, nleT, nleF, nneT, nneF, flipX, List.getElem?_cons_zero, List.getElem?_cons_succ, r45_6, srcOf]
    have kE : Kept h (Ev.newRow (Array.setIfInBounds h2 g.size (.cells [.int .i64 x.id, .int .i64 x.stamp, .string x.place, .int .i64 x.kind, v2] 0 true [])) [.int .i64 x.id, .int .i64 x.stamp, .string x.place, .int .i64 x.kind, v2] 5 []) [] := ⟨(by first | omega | (simp only [newRow_size, Array.size_setIfInBounds, Array.size_push]; done) | (simp only [newRow_size, Array.size_setIfInBounds, Array.size_push]; omega)), fun c hc _ => by
      simp (disch := first | omega | (simp only [newRow_size, Array.size_setIfInBounds, Array.size_push]; done) | (simp only [newRow_size, Array.size_setIfInBounds, Array.size_push]; omega)) [g2]
      exact kg.get hc (by simp)⟩
    have bE : Bld (since h.size) 5 (PrtC (since h.size)) (Ev.newRow (Array.setIfInBounds h2 g.size (.cells [.int .i64 x.id, .int .i64 x.stamp, .string x.place, .int .i64 x.kind, v2] 0 true [])) [.int .i64 x.id, .int .i64 x.stamp, .string x.place, .int .i64 x.kind, v2] 5 []) u (xs.take i) := by
      refine bu.kept (L := []) ⟨(by first | omega | (simp only [newRow_size, Array.size_setIfInBounds, Array.size_push]; done) | (simp only [newRow_size, Array.size_setIfInBounds, Array.size_push]; omega)), fun c hc _ => by simp (disch := first | omega | (simp only [newRow_size, Array.size_setIfInBounds, Array.size_push]; done) | (simp only [newRow_size, Array.size_setIfInBounds, Array.size_push]; omega)) [g2]⟩ (by simp) (fun cs t _ q => PrtC.imp q (fun _ _ q => q) (keep_of (L := []) ⟨(by first | omega | (simp only [newRow_size, Array.size_setIfInBounds, Array.size_push]; done) | (simp only [newRow_size, Array.size_setIfInBounds, Array.size_push]; omega)), fun c hc _ => cel_congr (by simp (disch := first | omega | (simp only [newRow_size, Array.size_setIfInBounds, Array.size_push]; done) | (simp only [newRow_size, Array.size_setIfInBounds, Array.size_push]; omega)) [g2])⟩ (by simp)))
    have sE : SlR (since h.size) 3 SeenC (Ev.newRow (Array.setIfInBounds h2 g.size (.cells [.int .i64 x.id, .int .i64 x.stamp, .string x.place, .int .i64 x.kind, v2] 0 true [])) [.int .i64 x.id, .int .i64 x.stamp, .string x.place, .int .i64 x.kind, v2] 5 []) v2 x.nodes := by
      refine SlSeen.imp bt.sl (fun b _ hb => ?_) (fun b cs hb hc => ?_)
      · have : g.size + 1 ≤ b := by simpa using hb
        show h.size ≤ b
        omega
      · have hb' : g.size + 1 ≤ b := by simpa using hb
        have := cel_lt hc
        rw [← hc]
        exact cel_congr (by simp (disch := first | omega | (simp only [newRow_size, Array.size_setIfInBounds, Array.size_push]; done) | (simp only [newRow_size, Array.size_setIfInBounds, Array.size_push]; omega)) [])
    refine Ans.next (bE.app (x := x) (bytes := 64) rfl ?_ ?_ ?_ ?_) ?_
    · rw [List.length_take]; omega
    · show h.size ≤ _; exact (by first | omega | (simp only [newRow_size, Array.size_setIfInBounds, Array.size_push]; done) | (simp only [newRow_size, Array.size_setIfInBounds, Array.size_push]; omega))
    · exact fun h' k cs y _ q => PrtC.imp q (fun _ _ q => q) (keep_of k (by simp))
    · exact fun h' k => ⟨v2, rfl, SlSeen.imp sE (fun _ _ q => q) (keep_of k (by simp))⟩
    rintro u' h3 ⟨b3, k3, y3, g3, _⟩
    simp (disch := first | omega | (simp only [newRow_size, Array.size_setIfInBounds, Array.size_push]; done) | (simp only [newRow_size, Array.size_setIfInBounds, Array.size_push]; omega)) [r45_7, hw, eqT, eqF, neT, neF, ltT, ltF, leT, leF, nltT, nltF, nleT, nleF, nneT, nneF, flipX, List.getElem?_cons_zero, List.getElem?_cons_succ]
    refine ih (xs.length - (i + 1)) _ _ (by omega) ⟨i + 1, u', rfl, by omega, rfl, ?_, by rw [take_snoc hx]; exact b3⟩
    exact ⟨by have := kE.1; have := k3.1; omega, fun c hc _ => (g3 c (by have := kE.1; omega) (bE.ne (by simp; omega))).trans (kE.get hc (by simp))⟩
  · have hxi : i = xs.length := by omega
    subst hxi
    rw [List.take_length] at bu
    simp (disch := first | omega | (simp only [newRow_size, Array.size_setIfInBounds, Array.size_push]; done) | (simp only [newRow_size, Array.size_setIfInBounds, Array.size_push]; omega)) [l45_8, r45_3, r45_9, eqT, eqF, neT, neF, ltT, ltF, leT, leF, nltT, nltF, nleT, nleF, nneT, nneF, flipX, List.getElem?_cons_zero, List.getElem?_cons_succ]
    exact Ans.of ⟨bu, kg⟩

end Go.Proofs.Ytkkagpchcefidaa

/- The document's copies: changes, parts. -/
set_option linter.unusedSimpArgs false
set_option linter.unusedVariables false
namespace Go.Proofs.Ytkkagpchcefidaa
open Go.Ev

theorem TgdC.frame {ok : Nat → Prop} {h h' : H} (k : KeptC h h' []) {cs : List Value} {x : Tgd} (q : TgdC ok h cs x) : TgdC ok h' cs x := TgdC.imp q (fun _ _ q => q) (keep_of k (by simp))
theorem PrtC.frame {ok : Nat → Prop} {h h' : H} (k : KeptC h h' []) {cs : List Value} {x : Prt} (q : PrtC ok h cs x) : PrtC ok h' cs x := PrtC.imp q (fun _ _ q => q) (keep_of k (by simp))
theorem ItmC.frame {ok : Nat → Prop} {h h' : H} (k : KeptC h h' []) {cs : List Value} {x : Itm} (q : ItmC ok h cs x) : ItmC ok h' cs x := ItmC.imp q (fun _ _ q => q) (keep_of k (by simp))
theorem SlTgd.frame {ok : Nat → Prop} {h h' : H} {v : Value} {xs : List Tgd} (s : SlR ok 5 (TgdC ok) h v xs) (k : KeptC h h' []) : SlR ok 5 (TgdC ok) h' v xs := SlTgd.imp s (fun _ _ q => q) (keep_of k (by simp))
theorem SlPrt.frame {ok : Nat → Prop} {h h' : H} {v : Value} {xs : List Prt} (s : SlR ok 5 (PrtC ok) h v xs) (k : KeptC h h' []) : SlR ok 5 (PrtC ok) h' v xs := SlPrt.imp s (fun _ _ q => q) (keep_of k (by simp))
theorem SlItm.frame {ok : Nat → Prop} {h h' : H} {v : Value} {xs : List Itm} (s : SlR ok 5 (ItmC ok) h v xs) (k : KeptC h h' []) : SlR ok 5 (ItmC ok) h' v xs := SlItm.imp s (fun _ _ q => q) (keep_of k (by simp))

theorem hd_at {ok : Nat → Prop} {h : H} {cs : List Value} {n : Nat} {t : Tgd} (q : TgdC ok h ((cs.drop n).take 5) t) (hle : n + 5 ≤ cs.length) : ∃ v, (cs.drop n).take 5 = [.int .i64 t.chg.kind, .string t.chg.place, .string t.chg.data, .int .i64 t.chg.ver, v] ∧ (cs.drop n).take 4 = [.int .i64 t.chg.kind, .string t.chg.place, .string t.chg.data, .int .i64 t.chg.ver] ∧ (cs.drop (n + 4)).take 1 = [v] ∧ SlR ok 1 IntC h v t.tags := by
  obtain ⟨v, e, s⟩ := q
  refine ⟨v, e, ?_, ?_, s⟩
  · have := congrArg (List.take 4) e
    rw [List.take_take] at this
    simpa using this
  · have := congrArg (List.drop 4) e
    rw [List.drop_take, List.drop_drop] at this
    simpa using this

set_option maxHeartbeats 1000000 in
theorem changes_spec {F : Nat} (hF : 17592186044420 ≤ F) {ok : Nat → Prop} {h : H} {v : Value} {xs : List Tgd} (s : SlR ok 5 (TgdC ok) h v xs) (hs : ShortT xs) : Ans (cf F 48 [v] h) (CopyT h xs) := by
  obtain ⟨F, rfl⟩ : ∃ G, F = G + 1 := ⟨F - 1, by omega⟩
  obtain ⟨hs1, hs2⟩ := hs
  rw [cf_step (a := a48) rfl rfl (by simp [a48])]
  have hl := s.len
  simp (disch := first | omega | (simp only [newRow_size, Array.size_setIfInBounds, Array.size_push]; done) | (simp only [newRow_size, Array.size_setIfInBounds, Array.size_push]; omega)) [a48, r48_0, r48_1, r48_2, hl, eqT, eqF, neT, neF, ltT, ltF, leT, leF, nltT, nltF, nleT, nleF, nneT, nneF, flipX, List.getElem?_cons_zero, List.getElem?_cons_succ]
  refine loop_rule (fun m e g => ∃ (i : Nat) (u : Value), m = xs.length - i ∧ i ≤ xs.length ∧ e = [(0, v), (3, u), (4, .int .i64 i)] ∧ Kept h g [] ∧ Bld (since h.size) 5 (TgdC (since h.size)) g u (xs.take i)) ?_ _ xs.length _ _ (by omega) ⟨0, _, by omega, by omega, rfl, Kept.refl _ _, Bld.nil _ _ _ _⟩
  rintro m e g again ⟨i, u, rfl, hi, rfl, kg, bu⟩ ih
  by_cases hlt : i < xs.length
  · obtain ⟨x, hx⟩ : ∃ x, xs[i]? = some x := ⟨_, List.getElem?_eq_getElem hlt⟩
    have hw : IntKind.i64.wrap ((i : Int) + 1) = ((i + 1 : Nat) : Int) := by rw [IntKind.wrap_i64]; omega
    have yg := kg.1
    simp (disch := first | omega | (simp only [newRow_size, Array.size_setIfInBounds, Array.size_push]; done) | (simp only [newRow_size, Array.size_setIfInBounds, Array.size_push]; omega)) [l48_12, r48_3, hl, eqT, eqF, neT, neF, ltT, ltF, leT, leF, nltT, nltF, nleT, nleF, nneT, nneF, flipX, List.getElem?_cons_zero, List.getElem?_cons_succ, r48_4, r48_5]
    have htl := hs2 x (List.mem_of_getElem? hx)
    refine loop_rule (fun m e g2 => ∃ (k : Nat) (t : Value), m = x.tags.length - k ∧ k ≤ x.tags.length ∧ e = [(0, v), (3, u), (4, .int .i64 i), (5, t), (6, .int .i64 k)] ∧ Kept g g2 [] ∧ Bld (since g.size) 1 IntC g2 t (x.tags.take k)) ?_ _ x.tags.length _ _ (by omega) ⟨0, _, by omega, by omega, rfl, Kept.refl _ _, Bld.nil _ _ _ _⟩
    rintro m e g2 again2 ⟨k, t, rfl, hk, rfl, k2, bt⟩ ih2
    have y2 := k2.1
    have s2 := s.imp (ok' := ok) (R' := TgdC ok) (fun _ _ q => q) (fun cs x _ q => TgdC.frame (kg.trans k2).c q) (keep_of (kg.trans k2).c (by simp))
    obtain ⟨b, o, c, cs, es, lv, an, rfl, hkb, hg, hle, hR⟩ := s2.at' hx
    obtain ⟨vt, hat5, hat4, hat1, st⟩ := hd_at hR hle
    have hgs := lt_of_get hg
    have hwk : IntKind.i64.wrap ((k : Int) + 1) = ((k + 1 : Nat) : Int) := by rw [IntKind.wrap_i64]; omega
    have htl' := st.len
    by_cases hkl : k < x.tags.length
    · obtain ⟨z, hz⟩ : ∃ z, x.tags[k]? = some z := ⟨_, List.getElem?_eq_getElem hkl⟩
      obtain ⟨b', o', c', cs', es', lv', an', rfl, hkb', hg', hle', hR'⟩ := st.at' hz
      have hR' : (cs'.drop (o' + k * 1)).take 1 = [.int .i64 z] := hR'
      rw [Nat.mul_one] at hR' hle'
      simp (disch := first | omega | (simp only [newRow_size, Array.size_setIfInBounds, Array.size_push]; done) | (simp only [newRow_size, Array.size_setIfInBounds, Array.size_push]; omega)) [l48_9, r48_6, hg, hat1, hg', hR', eqT, eqF, neT, neF, ltT, ltF, leT, leF, nltT, nltF, nleT, nleF, nneT, nneF, flipX, List.getElem?_cons_zero, List.getElem?_cons_succ, r48_7, srcOf]
      refine Ans.next (Bld.app (x := z) (bytes := 8) (ok := since g.size) (w := 1) (R := IntC) (xs := x.tags.take k) ?_ rfl ?_ ?_ ?_ ?_) ?_
      · exact bt.frame (rowKept _ _ _ _) (fun _ _ q => q)
      · rw [List.length_take]; omega
      · show g.size ≤ _; exact (by first | omega | (simp only [newRow_size, Array.size_setIfInBounds, Array.size_push]; done) | (simp only [newRow_size, Array.size_setIfInBounds, Array.size_push]; omega))
      · exact fun _ _ _ _ _ q => q
      · exact fun _ _ => rfl
      rintro t' g3 ⟨b3, k3, y3, g3', _⟩
      simp (disch := first | omega | (simp only [newRow_size, Array.size_setIfInBounds, Array.size_push]; done) | (simp only [newRow_size, Array.size_setIfInBounds, Array.size_push]; omega)) [r48_8, hwk, eqT, eqF, neT, neF, ltT, ltF, leT, leF, nltT, nltF, nleT, nleF, nneT, nneF, flipX, List.getElem?_cons_zero, List.getElem?_cons_succ]
      refine ih2 (x.tags.length - (k + 1)) _ _ (by omega) ⟨k + 1, t', rfl, by omega, rfl, ?_, by rw [take_snoc hz]; exact b3⟩
      have y3' := k3.1
      simp at y3'
      refine ⟨by omega, fun c hc _ => ?_⟩
      rw [g3' c (by simp; omega) (bt.ne (by simp; omega))]
      simp (disch := first | omega | (simp only [newRow_size, Array.size_setIfInBounds, Array.size_push]; done) | (simp only [newRow_size, Array.size_setIfInBounds, Array.size_push]; omega)) []
      exact k2.get hc (by simp)
    · have hkx : k = x.tags.length := by omega
      subst hkx
      rw [List.take_length] at bt
      have hvc := bt.sl.vc
      have hto := bt.sl.one
      simp only [vcells] at hvc
      simp only [oneCell] at hto
      simp (disch := first | omega | (simp only [newRow_size, Array.size_setIfInBounds, Array.size_push]; done) | (simp only [newRow_size, Array.size_setIfInBounds, Array.size_push]; omega)) [l48_9, r48_6, hg, hat1, htl', eqT, eqF, neT, neF, ltT, ltF, leT, leF, nltT, nltF, nleT, nleF, nneT, nneF, flipX, List.getElem?_cons_zero, List.getElem?_cons_succ, r48_10, hat4, hvc, srcOf, hto]
      refine Ans.next (Bld.app (x := x) (bytes := 72) (ok := since h.size) (w := 5) (R := TgdC (since h.size)) (xs := xs.take i) ?_ rfl ?_ ?_ ?_ ?_) ?_
      · exact Bld.frame (bu.frame k2 (fun _ _ q => TgdC.frame k2.c q)) (rowKept _ _ _ _) (fun _ _ q => TgdC.frame (rowKept _ _ _ _).c q)
      · rw [List.length_take]; omega
      · show h.size ≤ _; exact (by first | omega | (simp only [newRow_size, Array.size_setIfInBounds, Array.size_push]; done) | (simp only [newRow_size, Array.size_setIfInBounds, Array.size_push]; omega))
      · exact fun h' k cs y _ q => TgdC.frame k q
      · intro h' k
        refine ⟨t, rfl, ?_⟩
        refine SlInt.imp bt.sl (fun b _ hb => ?_) (fun b cs hb hc => ?_)
        · have : g.size ≤ b := hb
          show h.size ≤ b
          omega
        · exact ((rowKept _ _ _ _).c.trans k).2 b (cel_lt hc) (by simp) |>.trans hc
      rintro u' g3 ⟨b3, k3, y3, g3', _⟩
      simp (disch := first | omega | (simp only [newRow_size, Array.size_setIfInBounds, Array.size_push]; done) | (simp only [newRow_size, Array.size_setIfInBounds, Array.size_push]; omega)) [r48_11, hw, eqT, eqF, neT, neF, ltT, ltF, leT, leF, nltT, nltF, nleT, nleF, nneT, nneF, flipX, List.getElem?_cons_zero, List.getElem?_cons_succ]
      refine ih (xs.length - (i + 1)) _ _ (by omega) ⟨i + 1, u', rfl, by omega, rfl, ?_, by rw [take_snoc hx]; exact b3⟩
      have y3' := k3.1
      simp at y3'
      refine ⟨by omega, fun c hc _ => ?_⟩
      rw [g3' c (by simp; omega) (bu.ne (by simp; omega))]
      simp (disch := first | omega | (simp only [newRow_size, Array.size_setIfInBounds, Array.size_push]; done) | (simp only [newRow_size, Array.size_setIfInBounds, Array.size_push]; omega)) []
      exact (k2.get (by omega) (by simp)).trans (kg.get hc (by simp))
  · have hxi : i = xs.length := by omega
    subst hxi
    rw [List.take_length] at bu
    simp (disch := first | omega | (simp only [newRow_size, Array.size_setIfInBounds, Array.size_push]; done) | (simp only [newRow_size, Array.size_setIfInBounds, Array.size_push]; omega)) [l48_12, r48_3, hl, r48_13, eqT, eqF, neT, neF, ltT, ltF, leT, leF, nltT, nltF, nleT, nleF, nneT, nneF, flipX, List.getElem?_cons_zero, List.getElem?_cons_succ]
    exact Ans.of ⟨bu, kg⟩

set_option maxHeartbeats 1000000 in
theorem parts_spec {F : Nat} (hF : 17592186044420 ≤ F) {ok : Nat → Prop} {h : H} {v : Value} {xs : List Prt} (s : SlR ok 5 (PrtC ok) h v xs) (hs : ShortP xs) : Ans (cf F 49 [v] h) (CopyP h xs) := by
  obtain ⟨F, rfl⟩ : ∃ G, F = G + 1 := ⟨F - 1, by omega⟩
  obtain ⟨hs1, hs2⟩ := hs
  rw [cf_step (a := a49) rfl rfl (by simp [a49])]
  have hl := s.len
  simp (disch := first | omega | (simp only [newRow_size, Array.size_setIfInBounds, Array.size_push]; done) | (simp only [newRow_size, Array.size_setIfInBounds, Array.size_push]; omega)) [a49, r49_0, r49_1, r49_2, hl, eqT, eqF, neT, neF, ltT, ltF, leT, leF, nltT, nltF, nleT, nleF, nneT, nneF, flipX, List.getElem?_cons_zero, List.getElem?_cons_succ]
  refine loop_rule (fun m e g => ∃ (i : Nat) (u : Value), m = xs.length - i ∧ i ≤ xs.length ∧ e = [(0, v), (3, u), (4, .int .i64 i)] ∧ Kept h g [] ∧ Bld (since h.size) 5 (PrtC (since h.size)) g u (xs.take i)) ?_ _ xs.length _ _ (by omega) ⟨0, _, by omega, by omega, rfl, Kept.refl _ _, Bld.nil _ _ _ _⟩
  rintro m e g again ⟨i, u, rfl, hi, rfl, kg, bu⟩ ih
  by_cases hlt : i < xs.length
  · obtain ⟨x, hx⟩ : ∃ x, xs[i]? = some x := ⟨_, List.getElem?_eq_getElem hlt⟩
    have hw : IntKind.i64.wrap ((i : Int) + 1) = ((i + 1 : Nat) : Int) := by rw [IntKind.wrap_i64]; omega
    have yg := kg.1
    have sg := s.imp (ok' := ok) (R' := PrtC ok) (fun _ _ q => q) (fun cs x _ q => PrtC.frame kg.c q) (keep_of kg.c (by simp))
    obtain ⟨b, o, c, cs, es, lv, an, rfl, hkb, hg, hle, vt, hat, st⟩ := sg.at' hx
    have hgs := lt_of_get hg
    have hto := st.one
    simp only [oneCell] at hto
    simp (disch := first | omega | (simp only [newRow_size, Array.size_setIfInBounds, Array.size_push]; done) | (simp only [newRow_size, Array.size_setIfInBounds, Array.size_push]; omega)) [l49_14, r49_3, hl, hg, hat, hto, eqT, eqF, neT, neF, ltT, ltF, leT, leF, nltT, nltF, nleT, nleF, nneT, nneF, flipX, List.getElem?_cons_zero, List.getElem?_cons_succ, r49_4, r49_5, r49_6]
    have htl := hs2 x (List.mem_of_getElem? hx)
    have st1 := SlSeen.imp st (ok' := ok) (fun _ _ q => q) (keep_of (rowKept g [.int .i64 x.id, .int .i64 x.stamp, .string x.place, .int .i64 x.kind, vt] 0 []).c (by simp))
    have k1 := rowKept g [.int .i64 x.id, .int .i64 x.stamp, .string x.place, .int .i64 x.kind, vt] 0 []
    have e1 : hget (Ev.newRow g [.int .i64 x.id, .int .i64 x.stamp, .string x.place, .int .i64 x.kind, vt] 0 []) g.size = some (.cells [.int .i64 x.id, .int .i64 x.stamp, .string x.place, .int .i64 x.kind, vt] 0 true []) := by simp
    have z1 : (Ev.newRow g [.int .i64 x.id, .int .i64 x.stamp, .string x.place, .int .i64 x.kind, vt] 0 []).size = g.size + 1 := by simp
    generalize Ev.newRow g [.int .i64 x.id, .int .i64 x.stamp, .string x.place, .int .i64 x.kind, vt] 0 [] = g1 at st1 k1 e1 z1 ⊢
    refine loop_rule (fun m e g2 => ∃ (k : Nat) (t : Value), m = x.nodes.length - k ∧ k ≤ x.nodes.length ∧ e = [(0, .slice (some ⟨b, o, none⟩) xs.length c), (3, u), (4, .int .i64 i), (5, .pointer (some ⟨g.size, 0, none⟩)), (6, t), (7, .int .i64 k)] ∧ Kept g1 g2 [] ∧ Bld (since g1.size) 3 SeenC g2 t (x.nodes.take k)) ?_ _ x.nodes.length _ _ (by omega) ⟨0, _, by omega, by omega, rfl, Kept.refl _ _, Bld.nil _ _ _ _⟩
    rintro m e g2 again2 ⟨k, t, rfl, hk, rfl, k2, bt⟩ ih2
    have y2 := k2.1
    have e2 := (k2.get (b := g.size) (by omega) (by simp)).trans e1
    have hgs2 := lt_of_get e2
    have st2 := SlSeen.imp st1 (ok' := ok) (fun _ _ q => q) (keep_of k2.c (by simp))
    have hwk : IntKind.i64.wrap ((k : Int) + 1) = ((k + 1 : Nat) : Int) := by rw [IntKind.wrap_i64]; omega
    have htl' := st2.len
    by_cases hkl : k < x.nodes.length
    · obtain ⟨z, hz⟩ : ∃ z, x.nodes[k]? = some z := ⟨_, List.getElem?_eq_getElem hkl⟩
      obtain ⟨b', o', c', cs', es', lv', an', rfl, hkb', hg', hle', hR'⟩ := st2.at' hz
      have hR' : (cs'.drop (o' + k * 3)).take 3 = [.string z.place, .string z.data, .int .i64 z.ver] := hR'
      simp (disch := first | omega | (simp only [newRow_size, Array.size_setIfInBounds, Array.size_push]; done) | (simp only [newRow_size, Array.size_setIfInBounds, Array.size_push]; omega)) [l49_10, r49_7, e2, hg', hR', eqT, eqF, neT, neF, ltT, ltF, leT, leF, nltT, nltF, nleT, nleF, nneT, nneF, flipX, List.getElem?_cons_zero, List.getElem?_cons_succ, r49_8, srcOf]
      refine Ans.next (Bld.app (x := z) (bytes := 40) (ok := since g1.size) (w := 3) (R := SeenC) (xs := x.nodes.take k) ?_ rfl ?_ ?_ ?_ ?_) ?_
      · exact bt.frame (rowKept _ _ _ _) (fun _ _ q => q)
      · rw [List.length_take]; omega
      · show g1.size ≤ _; exact (by first | omega | (simp only [newRow_size, Array.size_setIfInBounds, Array.size_push]; done) | (simp only [newRow_size, Array.size_setIfInBounds, Array.size_push]; omega))
      · exact fun _ _ _ _ _ q => q
      · exact fun _ _ => rfl
      rintro t' g3 ⟨b3, k3, y3, g3', _⟩
      simp (disch := first | omega | (simp only [newRow_size, Array.size_setIfInBounds, Array.size_push]; done) | (simp only [newRow_size, Array.size_setIfInBounds, Array.size_push]; omega)) [r49_9, hwk, eqT, eqF, neT, neF, ltT, ltF, leT, leF, nltT, nltF, nleT, nleF, nneT, nneF, flipX, List.getElem?_cons_zero, List.getElem?_cons_succ]
      refine ih2 (x.nodes.length - (k + 1)) _ _ (by omega) ⟨k + 1, t', rfl, by omega, rfl, ?_, by rw [take_snoc hz]; exact b3⟩
      have y3' := k3.1
      simp at y3'
      refine ⟨by omega, fun c hc _ => ?_⟩
      rw [g3' c (by simp; omega) (bt.ne (by simp; omega))]
      simp (disch := first | omega | (simp only [newRow_size, Array.size_setIfInBounds, Array.size_push]; done) | (simp only [newRow_size, Array.size_setIfInBounds, Array.size_push]; omega)) []
      exact k2.get hc (by simp)
    · have hkx : k = x.nodes.length := by omega
      subst hkx
      rw [List.take_length] at bt
      have hvc := bt.sl.vc
      have hto := bt.sl.one
      simp only [vcells] at hvc
      simp only [oneCell] at hto
      simp (disch := first | omega | (simp only [newRow_size, Array.size_setIfInBounds, Array.size_push]; done) | (simp only [newRow_size, Array.size_setIfInBounds, Array.size_push]; omega)) [l49_10, r49_7, e2, htl', eqT, eqF, neT, neF, ltT, ltF, leT, leF, nltT, nltF, nleT, nleF, nneT, nneF, flipX, List.getElem?_cons_zero, List.getElem?_cons_succ, r49_11, r49_12, hvc, srcOf, hto]
      have kS : ∀ c y, c < g2.size → c ≠ g.size → hget (Ev.newRow (Array.setIfInBounds g2 g.size y) [.int .i64 x.id, .int .i64 x.stamp, .string x.place, .int .i64 x.kind, t] 5 []) c = hget g2 c := by
        intro c y hc hn
        simp (disch := first | omega | (simp only [newRow_size, Array.size_setIfInBounds, Array.size_push]; done) | (simp only [newRow_size, Array.size_setIfInBounds, Array.size_push]; omega)) []
      have kG : ∀ y, Kept g (Ev.newRow (Array.setIfInBounds g2 g.size y) [.int .i64 x.id, .int .i64 x.stamp, .string x.place, .int .i64 x.kind, t] 5 []) [] := fun y => ⟨(by first | omega | (simp only [newRow_size, Array.size_setIfInBounds, Array.size_push]; done) | (simp only [newRow_size, Array.size_setIfInBounds, Array.size_push]; omega)), fun c hc _ => by
        rw [kS c y (by omega) (by omega), k2.get (by omega) (by simp)]
        exact k1.get hc (by simp)⟩
      refine Ans.next (Bld.app (x := x) (bytes := 64) (ok := since h.size) (w := 5) (R := PrtC (since h.size)) (xs := xs.take i) ?_ rfl ?_ ?_ ?_ ?_) ?_
      · exact bu.frame (kG _) (fun _ _ q => PrtC.frame (kG _).c q)
      · rw [List.length_take]; omega
      · show h.size ≤ _; exact (by first | omega | (simp only [newRow_size, Array.size_setIfInBounds, Array.size_push]; done) | (simp only [newRow_size, Array.size_setIfInBounds, Array.size_push]; omega))
      · exact fun h' k cs y _ q => PrtC.frame k q
      · intro h' k
        refine ⟨t, rfl, ?_⟩
        refine SlSeen.imp bt.sl (fun b _ hb => ?_) (fun b cs hb hc => ?_)
        · have : g1.size ≤ b := hb
          show h.size ≤ b
          omega
        · have hb' : g1.size ≤ b := hb
          have hlt' := cel_lt hc
          rw [k.2 b (by simp; omega) (by simp), ← hc]
          exact cel_congr (kS _ _ hlt' (by omega))
      rintro u' g3 ⟨b3, k3, y3, g3', _⟩
      simp (disch := first | omega | (simp only [newRow_size, Array.size_setIfInBounds, Array.size_push]; done) | (simp only [newRow_size, Array.size_setIfInBounds, Array.size_push]; omega)) [r49_13, hw, eqT, eqF, neT, neF, ltT, ltF, leT, leF, nltT, nltF, nleT, nleF, nneT, nneF, flipX, List.getElem?_cons_zero, List.getElem?_cons_succ]
      refine ih (xs.length - (i + 1)) _ _ (by omega) ⟨i + 1, u', rfl, by omega, rfl, ?_, by rw [take_snoc hx]; exact b3⟩
      have y3' := k3.1
      simp at y3'
      refine ⟨by omega, fun c hc _ => ?_⟩
      rw [g3' c (by simp; omega) (bu.ne (by simp; omega))]
      exact ((kG _).get (by omega) (by simp)).trans (kg.get hc (by simp))
  · have hxi : i = xs.length := by omega
    subst hxi
    rw [List.take_length] at bu
    simp (disch := first | omega | (simp only [newRow_size, Array.size_setIfInBounds, Array.size_push]; done) | (simp only [newRow_size, Array.size_setIfInBounds, Array.size_push]; omega)) [l49_14, r49_3, hl, r49_15, eqT, eqF, neT, neF, ltT, ltF, leT, leF, nltT, nltF, nleT, nleF, nneT, nneF, flipX, List.getElem?_cons_zero, List.getElem?_cons_succ]
    exact Ans.of ⟨bu, kg⟩

end Go.Proofs.Ytkkagpchcefidaa

/- The law's comparisons of lists that read alike. -/
set_option linter.unusedSimpArgs false
set_option linter.unusedVariables false
namespace Go.Proofs.Ytkkagpchcefidaa
open Go.Ev

theorem ints_same {F : Nat} (hF : 17592186044420 ≤ F) {ok ok' : Nat → Prop} {h : H} {v w : Value} {xs : List Int} (s : SlR ok 1 IntC h v xs) (t : SlR ok' 1 IntC h w xs) (hs : xs.length ≤ 17592186044416) : cf F 63 [v, w] h = some (.bool true, h) := by
  obtain ⟨F, rfl⟩ : ∃ G, F = G + 1 := ⟨F - 1, by omega⟩
  suffices hq : Ans (cf (F + 1) 63 [v, w] h) fun u h' => u = .bool true ∧ h' = h by
    obtain ⟨u, h', e, rfl, rfl⟩ := hq
    exact e
  have hl := s.len
  have hl2 := t.len
  rw [cf_step (a := a63) rfl rfl (by simp [a63])]
  simp (disch := first | omega | (simp only [newRow_size, Array.size_setIfInBounds, Array.size_push]; done) | (simp only [newRow_size, Array.size_setIfInBounds, Array.size_push]; omega)) [a63, r63_0, r63_1, r63_3, hl, hl2, eqT, eqF, neT, neF, ltT, ltF, leT, leF, nltT, nltF, nleT, nleF, nneT, nneF, flipX, List.getElem?_cons_zero, List.getElem?_cons_succ]
  refine loop_rule (fun m e g => ∃ (i : Nat), m = xs.length - i ∧ i ≤ xs.length ∧ e = [(0, v), (1, w), (5, .int .i64 i)] ∧ g = h) ?_ _ xs.length _ _ (by omega) ⟨0, by omega, by omega, rfl, rfl⟩
  rintro m e g again ⟨i, rfl, hi, rfl, rfl⟩ ih
  by_cases hlt : i < xs.length
  · obtain ⟨x, hx⟩ : ∃ x, xs[i]? = some x := ⟨_, List.getElem?_eq_getElem hlt⟩
    obtain ⟨b, o, c, cs, es, lv, an, rfl, hk, hg, hle, hat⟩ := s.at' hx
    obtain ⟨b', o', c', cs', es', lv', an', rfl, hk', hg', hle', hat'⟩ := t.at' hx
    have hat : (cs.drop (o + i * 1)).take 1 = [.int .i64 x] := hat
    have hat' : (cs'.drop (o' + i * 1)).take 1 = [.int .i64 x] := hat'
    rw [Nat.mul_one] at hat hat' hle hle'
    have hw : IntKind.i64.wrap ((i : Int) + 1) = ((i + 1 : Nat) : Int) := by rw [IntKind.wrap_i64]; omega
    simp (disch := first | omega | (simp only [newRow_size, Array.size_setIfInBounds, Array.size_push]; done) | (simp only [newRow_size, Array.size_setIfInBounds, Array.size_push]; omega)) [l63_8, r63_4, d63_5, r63_7, hg, hg', hat, hat', hw, eqT, eqF, neT, neF, ltT, ltF, leT, leF, nltT, nltF, nleT, nleF, nneT, nneF, flipX, List.getElem?_cons_zero, List.getElem?_cons_succ]
    exact ih _ _ _ (by omega) ⟨i + 1, rfl, by omega, rfl, rfl⟩
  · simp (disch := first | omega | (simp only [newRow_size, Array.size_setIfInBounds, Array.size_push]; done) | (simp only [newRow_size, Array.size_setIfInBounds, Array.size_push]; omega)) [l63_8, r63_4, hl, r63_9, eqT, eqF, neT, neF, ltT, ltF, leT, leF, nltT, nltF, nleT, nleF, nneT, nneF, flipX, List.getElem?_cons_zero, List.getElem?_cons_succ]
    exact Ans.of ⟨rfl, rfl⟩

theorem changes_same {F : Nat} (hF : 17592186044421 ≤ F) {ok ok' : Nat → Prop} {h : H} {v w : Value} {xs : List Tgd} (s : SlR ok 5 (TgdC ok) h v xs) (t : SlR ok' 5 (TgdC ok') h w xs) (hs : ShortT xs) : cf F 46 [v, w] h = some (.bool true, h) := by
  obtain ⟨F, rfl⟩ : ∃ G, F = G + 1 := ⟨F - 1, by omega⟩
  suffices hq : Ans (cf (F + 1) 46 [v, w] h) fun u h' => u = .bool true ∧ h' = h by
    obtain ⟨u, h', e, rfl, rfl⟩ := hq
    exact e
  obtain ⟨hs1, hs2⟩ := hs
  have hl := s.len
  have hl2 := t.len
  rw [cf_step (a := a46) rfl rfl (by simp [a46])]
  simp (disch := first | omega | (simp only [newRow_size, Array.size_setIfInBounds, Array.size_push]; done) | (simp only [newRow_size, Array.size_setIfInBounds, Array.size_push]; omega)) [a46, r46_0, r46_1, r46_3, hl, hl2, eqT, eqF, neT, neF, ltT, ltF, leT, leF, nltT, nltF, nleT, nleF, nneT, nneF, flipX, List.getElem?_cons_zero, List.getElem?_cons_succ]
  refine loop_rule (fun m e g => ∃ (i : Nat), m = xs.length - i ∧ i ≤ xs.length ∧ e = [(0, v), (1, w), (5, .int .i64 i)] ∧ g = h) ?_ _ xs.length _ _ (by omega) ⟨0, by omega, by omega, rfl, rfl⟩
  rintro m e g again ⟨i, rfl, hi, rfl, rfl⟩ ih
  by_cases hlt : i < xs.length
  · obtain ⟨x, hx⟩ : ∃ x, xs[i]? = some x := ⟨_, List.getElem?_eq_getElem hlt⟩
    obtain ⟨b, o, c, cs, es, lv, an, rfl, hk, hg, hle, hR⟩ := s.at' hx
    obtain ⟨b', o', c', cs', es', lv', an', rfl, hk', hg', hle', hR'⟩ := t.at' hx
    obtain ⟨vt, e5, e4, e1, st⟩ := hd_at hR hle
    obtain ⟨vt', e5', e4', e1', st'⟩ := hd_at hR' hle'
    have hw : IntKind.i64.wrap ((i : Int) + 1) = ((i + 1 : Nat) : Int) := by rw [IntKind.wrap_i64]; omega
    have hin := ints_same (F := F) (by omega) st st' (hs2 x (List.mem_of_getElem? hx))
    simp (disch := first | omega | (simp only [newRow_size, Array.size_setIfInBounds, Array.size_push]; done) | (simp only [newRow_size, Array.size_setIfInBounds, Array.size_push]; omega)) [l46_8, r46_4, d46_5, r46_7, hg, hg', e4, e4', e1, e1', hw, eqT, eqF, neT, neF, ltT, ltF, leT, leF, nltT, nltF, nleT, nleF, nneT, nneF, flipX, List.getElem?_cons_zero, List.getElem?_cons_succ, ba_self, ba_nself, hin]
    exact ih _ _ _ (by omega) ⟨i + 1, rfl, by omega, rfl, rfl⟩
  · simp (disch := first | omega | (simp only [newRow_size, Array.size_setIfInBounds, Array.size_push]; done) | (simp only [newRow_size, Array.size_setIfInBounds, Array.size_push]; omega)) [l46_8, r46_4, hl, r46_9, eqT, eqF, neT, neF, ltT, ltF, leT, leF, nltT, nltF, nleT, nleF, nneT, nneF, flipX, List.getElem?_cons_zero, List.getElem?_cons_succ]
    exact Ans.of ⟨rfl, rfl⟩

theorem pd_at {ok : Nat → Prop} {h : H} {cs : List Value} {n : Nat} {t : Prt} (q : PrtC ok h ((cs.drop n).take 5) t) (hle : n + 5 ≤ cs.length) : ∃ v, (cs.drop n).take 5 = [.int .i64 t.id, .int .i64 t.stamp, .string t.place, .int .i64 t.kind, v] ∧ (cs.drop n).take 1 = [.int .i64 t.id] ∧ (cs.drop (n + 1)).take 4 = [.int .i64 t.stamp, .string t.place, .int .i64 t.kind, v] ∧ SlR ok 3 SeenC h v t.nodes := by
  obtain ⟨v, e, s⟩ := q
  refine ⟨v, e, ?_, ?_, s⟩
  · have := congrArg (List.take 1) e
    rw [List.take_take] at this
    simpa using this
  · have := congrArg (List.drop 1) e
    rw [List.drop_take, List.drop_drop] at this
    simpa using this

theorem parts_same {F : Nat} (hF : 17592186044421 ≤ F) {ok ok' : Nat → Prop} {h : H} {v w : Value} {xs : List Prt} (s : SlR ok 5 (PrtC ok) h v xs) (t : SlR ok' 5 (PrtC ok') h w xs) (hs : ShortP xs) : Ans (cf F 47 [v, w] h) fun u h' => u = .bool true ∧ Kept h h' [] := by
  obtain ⟨F, rfl⟩ : ∃ G, F = G + 1 := ⟨F - 1, by omega⟩
  obtain ⟨hs1, hs2⟩ := hs
  have hl := s.len
  have hl2 := t.len
  rw [cf_step (a := a47) rfl rfl (by simp [a47])]
  simp (disch := first | omega | (simp only [newRow_size, Array.size_setIfInBounds, Array.size_push]; done) | (simp only [newRow_size, Array.size_setIfInBounds, Array.size_push]; omega)) [a47, r47_0, r47_1, r47_3, hl, hl2, eqT, eqF, neT, neF, ltT, ltF, leT, leF, nltT, nltF, nleT, nleF, nneT, nneF, flipX, List.getElem?_cons_zero, List.getElem?_cons_succ]
  refine loop_rule (fun m e g => ∃ (i : Nat), m = xs.length - i ∧ i ≤ xs.length ∧ e = [(0, v), (1, w), (5, .int .i64 i)] ∧ Kept h g []) ?_ _ xs.length _ _ (by omega) ⟨0, by omega, by omega, rfl, Kept.refl _ _⟩
  rintro m e g again ⟨i, rfl, hi, rfl, kg⟩ ih
  by_cases hlt : i < xs.length
  · obtain ⟨x, hx⟩ : ∃ x, xs[i]? = some x := ⟨_, List.getElem?_eq_getElem hlt⟩
    obtain ⟨b, o, c, cs, es, lv, an, rfl, hk, hg, hle, hR⟩ := (SlPrt.frame s kg.c).at' hx
    obtain ⟨b', o', c', cs', es', lv', an', rfl, hk', hg', hle', hR'⟩ := (SlPrt.frame t kg.c).at' hx
    obtain ⟨vt, e5, e1, e4, st⟩ := pd_at hR hle
    obtain ⟨vt', e5', e1', e4', st'⟩ := pd_at hR' hle'
    have hgs := lt_of_get hg
    have hgs' := lt_of_get hg'
    have hw : IntKind.i64.wrap ((i : Int) + 1) = ((i + 1 : Nat) : Int) := by rw [IntKind.wrap_i64]; omega
    have ho := st.one
    have ho' := st'.one
    simp only [oneCell] at ho ho'
    have hn := st.len
    have hn' := st'.len
    simp (disch := first | omega | (simp only [newRow_size, Array.size_setIfInBounds, Array.size_push]; done) | (simp only [newRow_size, Array.size_setIfInBounds, Array.size_push]; omega)) [l47_16, r47_4, r47_5, r47_6, hg, hg', e4, e4', e1, e1', hw, ho, ho', hn, hn', eqT, eqF, neT, neF, ltT, ltF, leT, leF, nltT, nltF, nleT, nleF, nneT, nneF, flipX, List.getElem?_cons_zero, List.getElem?_cons_succ, ba_self, ba_nself, d47_7, r47_9]
    have kN : Kept g (Ev.newRow (Ev.newRow g [.int .i64 x.stamp, .string x.place, .int .i64 x.kind, vt] 0 []) [.int .i64 x.stamp, .string x.place, .int .i64 x.kind, vt'] 0 []) [] := (rowKept _ _ _ _).trans (rowKept _ _ _ _)
    have st2 := SlSeen.imp st (ok' := ok) (fun _ _ q => q) (keep_of kN.c (by simp))
    have st2' := SlSeen.imp st' (ok' := ok') (fun _ _ q => q) (keep_of kN.c (by simp))
    have f1 : hget (Ev.newRow (Ev.newRow g [.int .i64 x.stamp, .string x.place, .int .i64 x.kind, vt] 0 []) [.int .i64 x.stamp, .string x.place, .int .i64 x.kind, vt'] 0 []) g.size = some (.cells [.int .i64 x.stamp, .string x.place, .int .i64 x.kind, vt] 0 true []) := by simp
    have f2 : hget (Ev.newRow (Ev.newRow g [.int .i64 x.stamp, .string x.place, .int .i64 x.kind, vt] 0 []) [.int .i64 x.stamp, .string x.place, .int .i64 x.kind, vt'] 0 []) (g.size + 1) = some (.cells [.int .i64 x.stamp, .string x.place, .int .i64 x.kind, vt'] 0 true []) := by simp
    generalize Ev.newRow (Ev.newRow g [.int .i64 x.stamp, .string x.place, .int .i64 x.kind, vt] 0 []) [.int .i64 x.stamp, .string x.place, .int .i64 x.kind, vt'] 0 [] = g1 at kN st2 st2' f1 f2 ⊢
    have htl := hs2 x (List.mem_of_getElem? hx)
    refine loop_rule (fun m e g2 => ∃ (k : Nat), m = x.nodes.length - k ∧ k ≤ x.nodes.length ∧ e = [(0, .slice (some ⟨b, o, none⟩) xs.length c), (1, .slice (some ⟨b', o', none⟩) xs.length c'), (5, .int .i64 i), (6, .pointer (some ⟨g.size, 0, none⟩)), (7, .pointer (some ⟨g.size + 1, 0, none⟩)), (8, .int .i64 k)] ∧ g2 = g1) ?_ _ x.nodes.length _ _ (by omega) ⟨0, by omega, by omega, rfl, rfl⟩
    rintro m e g2 again2 ⟨k, rfl, hk, rfl, rfl⟩ ih2
    have hwk : IntKind.i64.wrap ((k : Int) + 1) = ((k + 1 : Nat) : Int) := by rw [IntKind.wrap_i64]; omega
    by_cases hkl : k < x.nodes.length
    · obtain ⟨z, hz⟩ : ∃ z, x.nodes[k]? = some z := ⟨_, List.getElem?_eq_getElem hkl⟩
      obtain ⟨b2, o2, c2, cs2, es2, lv2, an2, rfl, hk2, hg2, hle2, hR2⟩ := st2.at' hz
      obtain ⟨b3, o3, c3, cs3, es3, lv3, an3, rfl, hk3, hg3, hle3, hR3⟩ := st2'.at' hz
      have hR2 : (cs2.drop (o2 + k * 3)).take 3 = [.string z.place, .string z.data, .int .i64 z.ver] := hR2
      have hR3 : (cs3.drop (o3 + k * 3)).take 3 = [.string z.place, .string z.data, .int .i64 z.ver] := hR3
      simp (disch := first | omega | (simp only [newRow_size, Array.size_setIfInBounds, Array.size_push]; done) | (simp only [newRow_size, Array.size_setIfInBounds, Array.size_push]; omega)) [l47_14, r47_10, f1, f2, hg2, hg3, hR2, hR3, eqT, eqF, neT, neF, ltT, ltF, leT, leF, nltT, nltF, nleT, nleF, nneT, nneF, flipX, List.getElem?_cons_zero, List.getElem?_cons_succ, d47_11, ba_self, ba_nself, r47_13, hwk]
      exact ih2 _ _ _ (by omega) ⟨k + 1, rfl, by omega, rfl, rfl⟩
    · simp (disch := first | omega | (simp only [newRow_size, Array.size_setIfInBounds, Array.size_push]; done) | (simp only [newRow_size, Array.size_setIfInBounds, Array.size_push]; omega)) [l47_14, r47_10, f1, hn, eqT, eqF, neT, neF, ltT, ltF, leT, leF, nltT, nltF, nleT, nleF, nneT, nneF, flipX, List.getElem?_cons_zero, List.getElem?_cons_succ, r47_15, hw]
      exact ih _ _ _ (by omega) ⟨i + 1, rfl, by omega, rfl, kg.trans kN⟩
  · simp (disch := first | omega | (simp only [newRow_size, Array.size_setIfInBounds, Array.size_push]; done) | (simp only [newRow_size, Array.size_setIfInBounds, Array.size_push]; omega)) [l47_16, r47_4, hl, r47_17, eqT, eqF, neT, neF, ltT, ltF, leT, leF, nltT, nltF, nleT, nleF, nneT, nneF, flipX, List.getElem?_cons_zero, List.getElem?_cons_succ]
    exact Ans.of ⟨rfl, kg⟩

def ShortI (xs : List Itm) : Prop := xs.length ≤ 1048576 ∧ ∀ t ∈ xs, ShortT t.chgs ∧ ShortP t.prts

theorem id_at {ok : Nat → Prop} {h : H} {cs : List Value} {n : Nat} {t : Itm} (q : ItmC ok h ((cs.drop n).take 5) t) (hle : n + 5 ≤ cs.length) : ∃ v w, (cs.drop n).take 5 = [.int .i64 t.stamp, .int .i64 t.after, .bool t.marker, v, w] ∧ (cs.drop n).take 1 = [.int .i64 t.stamp] ∧ (cs.drop (n + 1)).take 1 = [.int .i64 t.after] ∧ (cs.drop (n + 2)).take 1 = [.bool t.marker] ∧ (cs.drop (n + 3)).take 1 = [v] ∧ (cs.drop (n + 4)).take 1 = [w] ∧ SlR ok 5 (TgdC ok) h v t.chgs ∧ SlR ok 5 (PrtC ok) h w t.prts := by
  obtain ⟨v, w, e, s1, s2⟩ := q
  have hd : ∀ k, (cs.drop (n + k)).take (5 - k) = [Value.int .i64 t.stamp, .int .i64 t.after, .bool t.marker, v, w].drop k := by
    intro k
    rw [← e, List.drop_take, List.drop_drop]
  have h1 : ∀ k, k < 5 → (cs.drop (n + k)).take 1 = ([Value.int .i64 t.stamp, .int .i64 t.after, .bool t.marker, v, w].drop k).take 1 := by
    intro k hk
    rw [← hd k, List.take_take, Nat.min_eq_left (by omega)]
  refine ⟨v, w, e, ?_, ?_, ?_, ?_, ?_, s1, s2⟩
  · simpa using h1 0 (by omega)
  · simpa using h1 1 (by omega)
  · simpa using h1 2 (by omega)
  · simpa using h1 3 (by omega)
  · simpa using h1 4 (by omega)

theorem items_same {F : Nat} (hF : 17592186044422 ≤ F) {ok ok' : Nat → Prop} {h : H} {v w : Value} {xs : List Itm} (s : SlR ok 5 (ItmC ok) h v xs) (t : SlR ok' 5 (ItmC ok') h w xs) (hs : ShortI xs) : Ans (cf F 21 [v, w] h) fun u h' => u = .bool true ∧ Kept h h' [] := by
  obtain ⟨F, rfl⟩ : ∃ G, F = G + 1 := ⟨F - 1, by omega⟩
  obtain ⟨hs1, hs2⟩ := hs
  have hl := s.len
  have hl2 := t.len
  rw [cf_step (a := a21) rfl rfl (by simp [a21])]
  simp (disch := first | omega | (simp only [newRow_size, Array.size_setIfInBounds, Array.size_push]; done) | (simp only [newRow_size, Array.size_setIfInBounds, Array.size_push]; omega)) [a21, r21_0, r21_1, r21_3, hl, hl2, eqT, eqF, neT, neF, ltT, ltF, leT, leF, nltT, nltF, nleT, nleF, nneT, nneF, flipX, List.getElem?_cons_zero, List.getElem?_cons_succ]
  refine loop_rule (fun m e g => ∃ (i : Nat), m = xs.length - i ∧ i ≤ xs.length ∧ e = [(0, v), (1, w), (5, .int .i64 i)] ∧ Kept h g []) ?_ _ xs.length _ _ (by omega) ⟨0, by omega, by omega, rfl, Kept.refl _ _⟩
  rintro m e g again ⟨i, rfl, hi, rfl, kg⟩ ih
  by_cases hlt : i < xs.length
  · obtain ⟨x, hx⟩ : ∃ x, xs[i]? = some x := ⟨_, List.getElem?_eq_getElem hlt⟩
    obtain ⟨b, o, c, cs, es, lv, an, rfl, hk, hg, hle, hR⟩ := (SlItm.frame s kg.c).at' hx
    obtain ⟨b', o', c', cs', es', lv', an', rfl, hk', hg', hle', hR'⟩ := (SlItm.frame t kg.c).at' hx
    obtain ⟨v1, w1, _, e0, e1, e2, e3, e4, s1, s2⟩ := id_at hR hle
    obtain ⟨v1', w1', _, e0', e1', e2', e3', e4', s1', s2'⟩ := id_at hR' hle'
    have hw : IntKind.i64.wrap ((i : Int) + 1) = ((i + 1 : Nat) : Int) := by rw [IntKind.wrap_i64]; omega
    obtain ⟨ht, hp⟩ := hs2 x (List.mem_of_getElem? hx)
    have hc := changes_same (F := F) (by omega) s1 s1' ht
    simp (disch := first | omega | (simp only [newRow_size, Array.size_setIfInBounds, Array.size_push]; done) | (simp only [newRow_size, Array.size_setIfInBounds, Array.size_push]; omega)) [l21_8, r21_4, d21_5, hg, hg', e0, e0', e1, e1', e2, e2', e3, e3', e4, e4', hc, eqT, eqF, neT, neF, ltT, ltF, leT, leF, nltT, nltF, nleT, nleF, nneT, nneF, flipX, List.getElem?_cons_zero, List.getElem?_cons_succ]
    refine Ans.nextE (parts_same (F := F) (by omega) s2 s2' hp) ?_
    rintro u h2 ⟨rfl, k2⟩
    simp (disch := first | omega | (simp only [newRow_size, Array.size_setIfInBounds, Array.size_push]; done) | (simp only [newRow_size, Array.size_setIfInBounds, Array.size_push]; omega)) [r21_7, hw, eqT, eqF, neT, neF, ltT, ltF, leT, leF, nltT, nltF, nleT, nleF, nneT, nneF, flipX, List.getElem?_cons_zero, List.getElem?_cons_succ]
    exact ih _ _ _ (by omega) ⟨i + 1, rfl, by omega, rfl, kg.trans k2⟩
  · simp (disch := first | omega | (simp only [newRow_size, Array.size_setIfInBounds, Array.size_push]; done) | (simp only [newRow_size, Array.size_setIfInBounds, Array.size_push]; omega)) [l21_8, r21_4, hl, r21_9, eqT, eqF, neT, neF, ltT, ltF, leT, leF, nltT, nltF, nleT, nleF, nneT, nneF, flipX, List.getElem?_cons_zero, List.getElem?_cons_succ]
    exact Ans.of ⟨rfl, kg⟩

end Go.Proofs.Ytkkagpchcefidaa

/- The plain model of a queue. -/
set_option linter.unusedSimpArgs false
set_option linter.unusedVariables false
namespace Go.Proofs.Ytkkagpchcefidaa

structure Qm where
  room : Nat
  items : List Itm
  last : Int

def fitsM (last stamp : Int) : Int := if 2147483647 < stamp then 3 else if stamp ≤ last then 100 else 0

def putM (q : Qm) (stamp : Int) (l : List Tgd) : Int × Qm :=
  if fitsM q.last stamp ≠ 0 then (fitsM q.last stamp, q)
  else if l = [] ∨ ∃ t ∈ l, t.tags = [] then (100, q)
  else if q.room ≤ q.items.length then (46, q)
  else (0, ⟨q.room, q.items ++ [⟨stamp, q.last, false, l, []⟩], stamp⟩)

def afterM (q : Qm) : Int := match q.items with
  | [] => q.last
  | x :: _ => x.after

def collM (q : Qm) (stamp : Int) (l : List Prt) : Int × Qm :=
  if fitsM q.last stamp ≠ 0 then (fitsM q.last stamp, q)
  else if l = [] then (100, q)
  else if q.room = 0 then (46, q)
  else (0, ⟨q.room, [⟨stamp, afterM q, true, [], l⟩], stamp⟩)

def nextM (q : Qm) (most : Int) : List Itm := q.items.take most.toNat

def tookM (q : Qm) (stamp : Int) : Nat × Qm := ((q.items.takeWhile fun x => decide (x.stamp ≤ stamp)).length, ⟨q.room, q.items.dropWhile fun x => decide (x.stamp ≤ stamp), q.last⟩)

/-- What holds of every queue. -/
structure Qm.Good (q : Qm) : Prop where
  room : q.room ≤ 32
  len : q.items.length ≤ q.room
  lo : 0 ≤ q.last
  hi : q.last ≤ 2147483647
  rise : q.items.Pairwise fun x y => x.stamp < y.stamp
  bnd : ∀ x ∈ q.items, x.stamp ≤ q.last

theorem Qm.Good.put {q : Qm} (g : q.Good) (stamp : Int) (l : List Tgd) : (putM q stamp l).2.Good := by
  unfold putM
  split
  · exact g
  rename_i h0
  split
  · exact g
  split
  · exact g
  rename_i h2
  have h3 : stamp ≤ 2147483647 ∧ q.last < stamp := by
    unfold fitsM at h0
    split at h0
    · simp at h0
    split at h0
    · simp at h0
    · omega
  have g1 := g.lo
  refine ⟨g.room, by simp; omega, by simp; omega, h3.1, ?_, ?_⟩
  · refine List.pairwise_append.2 ⟨g.rise, by simp, fun a ha b hb => ?_⟩
    simp at hb; subst hb
    have := g.bnd a ha
    show a.stamp < stamp
    omega
  · intro x hx
    rcases List.mem_append.1 hx with hx | hx
    · have := g.bnd x hx
      show x.stamp ≤ stamp
      omega
    · simp at hx; subst hx
      exact Int.le_refl _

theorem Qm.Good.coll {q : Qm} (g : q.Good) (stamp : Int) (l : List Prt) : (collM q stamp l).2.Good := by
  unfold collM
  split
  · exact g
  rename_i h0
  split
  · exact g
  split
  · exact g
  rename_i h2
  have h3 : stamp ≤ 2147483647 ∧ q.last < stamp := by
    unfold fitsM at h0
    split at h0
    · simp at h0
    split at h0
    · simp at h0
    · omega
  have g1 := g.lo
  exact ⟨g.room, by simp; omega, by simp; omega, h3.1, by simp, by simp⟩

theorem dropWhile_sub {α : Type} (p : α → Bool) (l : List α) : List.Sublist (l.dropWhile p) l := List.dropWhile_sublist p

theorem Qm.Good.took {q : Qm} (g : q.Good) (stamp : Int) : (tookM q stamp).2.Good := by
  have hs := dropWhile_sub (fun x : Itm => decide (x.stamp ≤ stamp)) q.items
  exact ⟨g.room, Nat.le_trans hs.length_le g.len, g.lo, g.hi, g.rise.sublist hs, fun x hx => g.bnd x (hs.subset hx)⟩

/-- Where stamps rise, what is above is what comes behind. -/
theorem filter_drop (s : Int) : ∀ (l : List Itm), l.Pairwise (fun x y => x.stamp < y.stamp) → l.filter (fun x => decide (s < x.stamp)) = l.dropWhile fun x => decide (x.stamp ≤ s)
  | [], _ => rfl
  | x :: l, h => by
    rw [List.pairwise_cons] at h
    by_cases c : x.stamp ≤ s
    · have h1 : ¬ s < x.stamp := by omega
      simp [List.filter_cons, List.dropWhile_cons, c, h1]
      exact filter_drop s l h.2
    · have h1 : s < x.stamp := by omega
      simp [List.filter_cons, List.dropWhile_cons, c, h1]
      intro y hy
      have := h.1 y hy
      omega

def Qm.new (room : Int) (begin' : Int) : Qm := ⟨room.toNat, [], begin'⟩
theorem Qm.Good.new {room b : Int} (h1 : 1 ≤ room) (h2 : room ≤ 32) (h3 : 0 ≤ b) (h4 : b ≤ 2147483647) : (Qm.new room b).Good :=
  ⟨by simp [Qm.new]; omega, by simp [Qm.new], h3, h4, by simp [Qm.new], by simp [Qm.new]⟩
theorem Qm.Good.zero : (⟨0, [], 0⟩ : Qm).Good := ⟨by simp, by simp, by simp, by simp, by simp, by simp⟩

end Go.Proofs.Ytkkagpchcefidaa
