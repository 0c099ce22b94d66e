/- Several texts in one: Ev20, Ev21, Ev22, Lc0, Lc1, Lc2, Lc3, Lc4, Lc5. -/
import Derived.ChangeArms
import Derived.Test.YtmenfnapbggglaaM14

/- Ev20: what is handed in, cell by cell, as the sealed abstract heap holds it. -/
set_option linter.unusedSimpArgs false
set_option linter.unusedVariables false
namespace Go.Ev

inductive Ty where
  | int (k : IntKind)
  | bool
  | str
  | slice (e : Ty)
  | struct (fs : List Ty)

mutual
def Ty.size : Ty → Nat
  | .int _ => 1
  | .bool => 1
  | .str => 1
  | .slice _ => 1
  | .struct fs => Ty.sizes fs
def Ty.sizes : List Ty → Nat
  | [] => 0
  | f :: fs => f.size + Ty.sizes fs
end

mutual
/-- The program's type is laid out so. -/
def tyOk (P : Program) : Ty → TypeId → Bool
  | .int k, t => match P.underlying t with
    | some (.int k') => k == k'
    | _ => false
  | .bool, t => match P.underlying t with
    | some .bool => true
    | _ => false
  | .str, t => match P.underlying t with
    | some .string => true
    | _ => false
  | .slice e, t => match P.underlying t with
    | some (.slice el) => P.cellsOf el == e.size && decide (0 < e.size) && tyOk P e el
    | _ => false
  | .struct fs, t => match P.underlying t with
    | some (.struct fields) => P.cellsOf t == Ty.sizes fs && fieldsOk P fs fields.toList 0
    | _ => false
def fieldsOk (P : Program) : List Ty → List Field → Nat → Bool
  | [], [], _ => true
  | y :: ys, f :: fs, o => f.offset == o && P.cellsOf f.type == y.size && tyOk P y f.type && fieldsOk P ys fs (o + y.size)
  | _, _, _ => false
end

mutual
/-- Cells of such a type. -/
def CellsT (h : H) : Ty → List Value → Prop
  | .int k, cs => ∃ n, cs = [.int k n] ∧ (Lit.int k n).wf = true
  | .bool, cs => ∃ b, cs = [.bool b]
  | .str, cs => ∃ s : ByteArray, cs = [.string s] ∧ s.size ≤ maxLen
  | .slice e, cs => cs = [.slice none 0 0] ∨ cs = [.slice (some ⟨0, 0, some 0⟩) 0 0] ∨
      ∃ b o n c bs, cs = [.slice (some ⟨b, o, none⟩) n c] ∧ n ≤ c ∧ c ≤ maxLen ∧ b < h.size ∧ hget h b = some (.cells bs 0 false []) ∧ ∀ i, i < n → o + i * e.size + e.size ≤ bs.length ∧ CellsT h e ((bs.drop (o + i * e.size)).take e.size)
  | .struct fs, cs => StructT h fs cs
def StructT (h : H) : List Ty → List Value → Prop
  | [], cs => cs = []
  | f :: fs, cs => f.size ≤ cs.length ∧ CellsT h f (cs.take f.size) ∧ StructT h fs (cs.drop f.size)
end

theorem cells_row {w : World} {base : Nat} {a : Addr} {n : Nat} {cs : List Value} (h : w.cells? base a n = some cs) (hn : 0 < n) :
    ∃ (arr : Array Value) (T : TypeId) (fr : Nat × Nat), w.heap[a.block]? = some (.cells arr T fr) ∧ a.spot = none ∧ a.off + n ≤ arr.size ∧ cs = (arr.toList.drop a.off).take n := by
  obtain ⟨_, hl, hi⟩ := World.cells?_some h
  have h0 := hi 0 hn
  have ha : a.add 0 = a := by simp [Addr.add]
  rw [ha] at h0
  have hs0 : ∃ v, cs[0]? = some v := ⟨cs[0]'(by omega), List.getElem?_eq_getElem (by omega)⟩
  obtain ⟨v0, hv0⟩ := hs0
  rw [hv0] at h0
  unfold World.cell? at h0
  split at h0
  · rename_i c T fr hc
    have hsp : a.spot = none := by
      cases hsp : a.spot with
      | none => rfl
      | some q => rw [hsp] at h0; simp at h0
    have hcell : ∀ i, i < n → c[a.off + i]? = cs[i]? := by
      intro i hi'
      rw [← hi i hi']
      unfold World.cell?
      by_cases hz : i = 0
      · subst hz; rw [ha, hc]; simp [hsp]
      · simp [Addr.add, hz, hc]
    have hsz : a.off + n ≤ c.size := by
      have hlast : cs[n - 1]? = some (cs[n - 1]'(by omega)) := List.getElem?_eq_getElem (by omega)
      have := hcell (n - 1) (by omega)
      rw [hlast] at this
      have := (Array.getElem?_eq_some_iff.1 this).1
      omega
    refine ⟨c, T, fr, hc, hsp, hsz, ?_⟩
    apply List.ext_getElem?
    intro i
    by_cases hi' : i < n
    · rw [← hcell i hi', List.getElem?_take, if_pos hi', List.getElem?_drop, Array.getElem?_toList]
    · rw [List.getElem?_eq_none (by omega), List.getElem?_take, if_neg hi']
  · cases h0

section
variable {HT : Type} {enc : TypeId × Value → HT} {P : Program} {W : World} {base : Nat} {held : Bool}

mutual
theorem open_cells : ∀ (y : Ty) (t : TypeId), tyOk P y t = true → ∀ {fuel : Nat} {cs : List Value} {x : DataW HT × List MemPlace}, DataW.trod enc P W base (fun _ => true) held fuel t cs = some x →
    CellsT (absH W) y (cs.map (absV W.heap.size)) ∧ cs.length = y.size
  | .int k, t, hy, fuel, cs, x, h => by
    unfold tyOk at hy
    split at hy
    · rename_i k' ht
      have hk : k = k' := by simpa using hy
      subst hk
      obtain ⟨n, rfl, _, hw⟩ := DataW.trod_int ht h
      exact ⟨by simp only [CellsT]; exact ⟨n, rfl, hw⟩, rfl⟩
    · cases hy
  | .bool, t, hy, fuel, cs, x, h => by
    unfold tyOk at hy
    split at hy
    · rename_i ht
      obtain ⟨b, rfl, _⟩ := DataW.trod_bool ht h
      exact ⟨by simp only [CellsT]; exact ⟨b, rfl⟩, rfl⟩
    · cases hy
  | .str, t, hy, fuel, cs, x, h => by
    unfold tyOk at hy
    split at hy
    · rename_i ht
      obtain ⟨s, rfl, _, hw⟩ := DataW.trod_string ht h
      exact ⟨by simp only [CellsT]; exact ⟨s, rfl, hw⟩, rfl⟩
    · cases hy
  | .slice e, t, hy, fuel, cs, x, h => by
    unfold tyOk at hy
    split at hy
    · rename_i el ht
      simp only [Bool.and_eq_true, beq_iff_eq, decide_eq_true_eq] at hy
      obtain ⟨⟨hsz, hpos⟩, hel⟩ := hy
      rcases DataW.trod_slice ht h with ⟨rfl, _⟩ | ⟨a, len, cap, elems, rest, n, _, rfl, _, _, hlc, hcm, hlen, hE, hR, _⟩
      · exact ⟨by simp only [CellsT]; exact .inl rfl, rfl⟩
      · refine ⟨?_, rfl⟩
        simp only [CellsT]
        by_cases hc0 : cap = 0
        · subst hc0
          have : len = 0 := by omega
          subst this
          exact .inr (.inl rfl)
        · rw [hsz] at hE hR
          obtain ⟨hrl, hR⟩ := hR rfl
          have hrow : ∀ i, i < cap → ∃ row, W.cells? base (a.add (i * e.size)) e.size = some row := by
            intro i hi
            by_cases hil : i < len
            · have := hE i hil
              obtain ⟨q, hq⟩ : ∃ q, elems[i]? = some q := ⟨_, List.getElem?_eq_getElem (by omega)⟩
              rw [hq] at this
              obtain ⟨row, h1, _⟩ := Option.bind_eq_some_iff.1 this
              exact ⟨row, h1⟩
            · have := hR (i - len) (by omega)
              obtain ⟨q, hq⟩ : ∃ q, rest[i - len]? = some q := ⟨_, List.getElem?_eq_getElem (by omega)⟩
              rw [hq, show len + (i - len) = i by omega] at this
              obtain ⟨row, h1, _⟩ := Option.bind_eq_some_iff.1 this
              exact ⟨row, h1⟩
          obtain ⟨row0, h0⟩ := hrow 0 (by omega)
          rw [Nat.zero_mul, show a.add 0 = a from by simp [Addr.add]] at h0
          obtain ⟨arr, T, fr, hh, hsp, _, _⟩ := cells_row h0 hpos
          obtain ⟨b, o, sp⟩ := a
          simp only at hsp hh
          subst hsp
          have hbl : b < W.heap.size := (Array.getElem?_eq_some_iff.1 hh).1
          refine .inr (.inr ⟨b, o, len, cap, arr.toList.map (absV W.heap.size), ?_, hlc, hcm, by rw [absH_size]; exact hbl, ?_, ?_⟩)
          · simp only [List.map_cons, List.map_nil, absV]
            by_cases hl0 : len = 0
            · subst hl0
              cases cap with
              | zero => exact absurd rfl hc0
              | succ cap => simp [absV, hbl]
            · cases len with
              | zero => exact absurd rfl hl0
              | succ len => simp [absV, hbl, hlc]
          · show (W.heap.map (absB W.heap.size))[b]? = _
            rw [Array.getElem?_map, hh]; rfl
          · intro i hi
            obtain ⟨row, hr⟩ := hrow i (by omega)
            obtain ⟨arr', T', fr', hh', _, hsz', hrow'⟩ := cells_row hr hpos
            have hoff : ((⟨b, o, none⟩ : Addr).add (i * e.size)).off = o + i * e.size := by
              by_cases hz : i * e.size = 0
              · simp [Addr.add, hz]
              · simp [Addr.add, hz]
            have hblk : ((⟨b, o, none⟩ : Addr).add (i * e.size)).block = b := by
              by_cases hz : i * e.size = 0
              · simp [Addr.add, hz]
              · simp [Addr.add, hz]
            rw [hblk, hh] at hh'
            simp only [Option.some.injEq, Obj.cells.injEq] at hh'
            obtain ⟨rfl, _, _⟩ := hh'
            rw [hoff] at hsz' hrow'
            have hEi := hE i hi
            obtain ⟨q, hq⟩ : ∃ q, elems[i]? = some q := ⟨_, List.getElem?_eq_getElem (by omega)⟩
            rw [hq, hr] at hEi
            simp only [Option.bind_some] at hEi
            have hrec := (open_cells e el hel hEi).1
            refine ⟨by simpa using hsz', ?_⟩
            rw [hrow'] at hrec
            simpa [List.map_take, List.map_drop] using hrec
    · cases hy
  | .struct fs, t, hy, fuel, cs, x, h => by
    unfold tyOk at hy
    split at hy
    · rename_i fields ht
      simp only [Bool.and_eq_true, beq_iff_eq] at hy
      obtain ⟨hsz, hf⟩ := hy
      obtain ⟨xs, n, _, _, hl, hlen, hi⟩ := DataW.trod_struct ht h
      rw [hsz] at hl
      refine ⟨?_, by simpa [Ty.size] using hl⟩
      simp only [CellsT]
      have := open_fields fs fields.toList 0 hf (fuel := n) (cs := cs) (by omega) (fun i f hif => by
        have hif' : fields[i]? = some f := by simpa using hif
        have := hi i f hif'
        obtain ⟨q, hq⟩ : ∃ q, xs[i]? = some q := ⟨_, List.getElem?_eq_getElem (by
          have := (Array.getElem?_eq_some_iff.1 hif').1
          omega)⟩
        rw [hq] at this
        exact ⟨q, this⟩)
      simpa using this
    · cases hy
theorem open_fields : ∀ (ys : List Ty) (fs : List Field) (o : Nat), fieldsOk P ys fs o = true → ∀ {fuel : Nat} {cs : List Value}, cs.length = o + Ty.sizes ys →
    (∀ (i : Nat) (f : Field), fs[i]? = some f → ∃ x, DataW.trod enc P W base (fun _ => true) held fuel f.type ((cs.drop f.offset).take (P.cellsOf f.type)) = some x) →
    StructT (absH W) ys ((cs.drop o).map (absV W.heap.size))
  | [], [], o, _, fuel, cs, hl, _ => by
    simp only [StructT, Ty.sizes] at hl ⊢
    simp; omega
  | [], _ :: _, _, h, _, _, _, _ => by simp [fieldsOk] at h
  | _ :: _, [], _, h, _, _, _, _ => by simp [fieldsOk] at h
  | y :: ys, f :: fs, o, h, fuel, cs, hl, hx => by
    simp only [fieldsOk, Bool.and_eq_true, beq_iff_eq] at h
    obtain ⟨⟨⟨h1, h2⟩, h3⟩, h4⟩ := h
    simp only [Ty.sizes] at hl
    obtain ⟨x, hx0⟩ := hx 0 f rfl
    rw [h1, h2] at hx0
    have g1 := (open_cells y f.type h3 hx0).1
    have g2 := open_fields ys fs (o + y.size) h4 (fuel := fuel) (cs := cs) (by omega) (fun i g hg => hx (i + 1) g (by simpa using hg))
    simp only [StructT]
    refine ⟨by simp; omega, ?_, ?_⟩
    · simpa [List.map_take, List.map_drop] using g1
    · simpa [List.map_drop, List.drop_drop, Nat.add_comm] using g2
end

mutual
theorem cellsT_plain {h : H} : ∀ (y : Ty) {cs : List Value}, CellsT h y cs → cs.length = y.size ∧ ∀ x ∈ cs, oneCell x = true ∧ sameCell x x = true
  | .int k, cs, hc => by
    simp only [CellsT] at hc
    obtain ⟨n, rfl, _⟩ := hc
    simp [Ty.size, oneCell, sameCell]
  | .bool, cs, hc => by
    simp only [CellsT] at hc
    obtain ⟨n, rfl⟩ := hc
    simp [Ty.size, oneCell, sameCell]
  | .str, cs, hc => by
    simp only [CellsT] at hc
    obtain ⟨n, rfl, _⟩ := hc
    refine ⟨rfl, fun x hx => ?_⟩
    rw [List.mem_singleton] at hx
    subst hx
    exact ⟨rfl, (MapKept.bytes_beq n n).2 rfl⟩
  | .slice e, cs, hc => by
    simp only [CellsT] at hc
    rcases hc with rfl | rfl | ⟨b, o, n, c, bs, rfl, _⟩ <;> simp [Ty.size, oneCell, sameCell]
  | .struct fs, cs, hc => by
    simp only [CellsT] at hc
    have := structT_plain fs hc
    simpa [Ty.size] using this
theorem structT_plain {h : H} : ∀ (ys : List Ty) {cs : List Value}, StructT h ys cs → cs.length = Ty.sizes ys ∧ ∀ x ∈ cs, oneCell x = true ∧ sameCell x x = true
  | [], cs, hc => by
    simp only [StructT] at hc
    subst hc
    simp [Ty.sizes]
  | y :: ys, cs, hc => by
    simp only [StructT] at hc
    obtain ⟨h1, h2, h3⟩ := hc
    obtain ⟨a1, a2⟩ := cellsT_plain y h2
    obtain ⟨b1, b2⟩ := structT_plain ys h3
    refine ⟨by simp [Ty.sizes] at b1 ⊢; omega, fun x hx => ?_⟩
    rw [← List.take_append_drop y.size cs] at hx
    rcases List.mem_append.1 hx with hx | hx
    · exact a2 x hx
    · exact b2 x hx
end

theorem sameL_refl : ∀ (l : List Value), (∀ x ∈ l, sameCell x x = true) → sameL l l = true
  | [], _ => rfl
  | x :: l, h => by
    unfold sameL
    rw [h x (by simp), sameL_refl l fun y hy => h y (by simp [hy])]
    rfl

/-- An argument. -/
theorem open_arg {y : Ty} {t : TypeId} (hy : tyOk P y t = true) {v : Value} {d : DataW HT} {p : List MemPlace} (h : DataW.Trod enc P W base (fun _ => true) held t v d p) : CellsT (absH W) y (v.cells.toList.map (absV W.heap.size)) := by
  obtain ⟨fuel, h⟩ := h
  exact (open_cells y t hy h).1

end

end Go.Ev

/- Ev21: lists in memory: what a slice reads as, by the contents of its row alone; lists that are being built by append. -/
set_option linter.unusedSimpArgs false
set_option linter.unusedVariables false
namespace Go.Ev

theorem ba_self (b : ByteArray) : (b == b) = true := (MapKept.bytes_beq b b).2 rfl
theorem ba_nself (b : ByteArray) : (b != b) = false := by
  show (!(b == b)) = false
  rw [ba_self]; rfl

/-- The contents of a row. -/
def cel (h : H) (b : Nat) : Option (List Value) := match hget h b with
  | some (.cells cs _ _ _) => some cs
  | _ => none

theorem cel_of {h : H} {b : Nat} {cs : List Value} {es : Nat} {lv : Bool} {an : List Nat} (e : hget h b = some (.cells cs es lv an)) : cel h b = some cs := by
  unfold cel; rw [e]
theorem cel_inv {h : H} {b : Nat} {cs : List Value} (e : cel h b = some cs) : ∃ es lv an, hget h b = some (.cells cs es lv an) := by
  unfold cel at e
  split at e
  · rename_i h'
    cases e
    exact ⟨_, _, _, h'⟩
  · cases e
theorem cel_lt {h : H} {b : Nat} {cs : List Value} (e : cel h b = some cs) : b < h.size := by
  obtain ⟨_, _, _, e⟩ := cel_inv e
  exact lt_of_get e
theorem cel_congr {h h' : H} {b : Nat} (e : hget h' b = hget h b) : cel h' b = cel h b := by unfold cel; rw [e]

/-- The contents are as they were, but for some blocks'. -/
def KeptC (h h' : H) (L : List Nat) : Prop := h.size ≤ h'.size ∧ ∀ b, b < h.size → b ∉ L → cel h' b = cel h b
theorem KeptC.refl (h : H) (L : List Nat) : KeptC h h L := ⟨Nat.le_refl _, fun _ _ _ => rfl⟩
theorem KeptC.trans {h h1 h2 : H} {L : List Nat} (a : KeptC h h1 L) (b : KeptC h1 h2 L) : KeptC h h2 L :=
  ⟨Nat.le_trans a.1 b.1, fun x hx hs => (b.2 x (Nat.lt_of_lt_of_le hx a.1) hs).trans (a.2 x hx hs)⟩
theorem KeptC.weak {h h' : H} {L M : List Nat} (a : KeptC h h' L) (hs : ∀ b ∈ L, b ∈ M) : KeptC h h' M := ⟨a.1, fun b hb h => a.2 b hb fun q => h (hs b q)⟩
theorem Kept.c {h h' : H} {L : List Nat} (a : Kept h h' L) : KeptC h h' L := ⟨a.1, fun b hb hn => cel_congr (a.2 b hb hn)⟩

section
variable {α : Type}

/-- A slice reads as these: ok tells where its row may lie, w how many cells an element has, R what they say. -/
def SlR (ok : Nat → Prop) (w : Nat) (R : H → List Value → α → Prop) (h : H) (v : Value) (xs : List α) : Prop :=
  ((v = .slice none 0 0 ∨ v = .slice (some ⟨0, 0, some 0⟩) 0 0) ∧ xs = []) ∨
  ∃ b o c cs, v = .slice (some ⟨b, o, none⟩) xs.length c ∧ xs.length ≤ c ∧ ok b ∧ cel h b = some cs ∧ ∀ (i : Nat) (x : α), xs[i]? = some x → o + i * w + w ≤ cs.length ∧ R h ((cs.drop (o + i * w)).take w) x

variable {ok ok' : Nat → Prop} {w : Nat} {R R' : H → List Value → α → Prop} {h h' : H} {v : Value} {xs : List α} {L : List Nat}

theorem SlR.len (s : SlR ok w R h v xs) : lenV v = some (.int .i64 xs.length) := by
  rcases s with ⟨rfl | rfl, rfl⟩ | ⟨b, o, c, cs, rfl, _⟩ <;> simp [lenV]

theorem SlR.one (s : SlR ok w R h v xs) : oneCell v = true := by
  rcases s with ⟨rfl | rfl, rfl⟩ | ⟨b, o, c, cs, rfl, _⟩ <;> rfl
theorem SlR.vc (s : SlR ok w R h v xs) : vcells v = some [v] := by
  rcases s with ⟨rfl | rfl, rfl⟩ | ⟨b, o, c, cs, rfl, _⟩ <;> rfl
theorem SlR.same (s : SlR ok w R h v xs) : sameCell v v = true := by
  rcases s with ⟨rfl | rfl, rfl⟩ | ⟨b, o, c, cs, rfl, _⟩ <;> simp [sameCell]
theorem SlR.ne_text (s : SlR ok w R h v xs) : isText v = false := by
  rcases s with ⟨rfl | rfl, rfl⟩ | ⟨b, o, c, cs, rfl, _⟩ <;> rfl

theorem SlR.imp (s : SlR ok w R h v xs) (h1 : ∀ b, b < h.size → ok b → ok' b) (h2 : ∀ cs, ∀ x ∈ xs, R h cs x → R' h' cs x) (h3 : ∀ b cs, ok b → cel h b = some cs → cel h' b = some cs) : SlR ok' w R' h' v xs := by
  rcases s with s | ⟨b, o, c, cs, e, hc, hk, hb, hi⟩
  · exact .inl s
  · refine .inr ⟨b, o, c, cs, e, hc, h1 b (cel_lt hb) hk, h3 b cs hk hb, fun i x hx => ⟨(hi i x hx).1, h2 _ _ (List.mem_of_getElem? hx) (hi i x hx).2⟩⟩

theorem SlR.kc (s : SlR ok w R h v xs) (k : KeptC h h' L) (hL : ∀ b ∈ L, ¬ ok b) (hR : ∀ cs, ∀ x ∈ xs, R h cs x → R h' cs x) : SlR ok w R h' v xs :=
  s.imp (fun _ _ q => q) hR fun b cs hk hb => (k.2 b (cel_lt hb) (fun q => hL b q hk)).trans hb

theorem SlR.row (s : SlR ok w R h v xs) (hne : 0 < xs.length) : ∃ b o c cs, v = .slice (some ⟨b, o, none⟩) xs.length c ∧ xs.length ≤ c ∧ ok b ∧ cel h b = some cs ∧ ∀ (i : Nat) (x : α), xs[i]? = some x → o + i * w + w ≤ cs.length ∧ R h ((cs.drop (o + i * w)).take w) x := by
  rcases s with ⟨_, rfl⟩ | s
  · simp at hne
  · exact s

/-- What an element reads as, where it is read. -/
theorem SlR.at' (s : SlR ok w R h v xs) {i : Nat} {x : α} (hx : xs[i]? = some x) : ∃ b o c cs es lv an, v = .slice (some ⟨b, o, none⟩) xs.length c ∧ ok b ∧ hget h b = some (.cells cs es lv an) ∧ o + i * w + w ≤ cs.length ∧ R h ((cs.drop (o + i * w)).take w) x := by
  have hi := (List.getElem?_eq_some_iff.1 hx).1
  obtain ⟨b, o, c, cs, e, _, hk, hb, hr⟩ := s.row (by omega)
  obtain ⟨es, lv, an, hg⟩ := cel_inv hb
  exact ⟨b, o, c, cs, es, lv, an, e, hk, hg, (hr i x hx).1, (hr i x hx).2⟩

theorem rowKept (h : H) (cs : List Value) (es : Nat) (an : List Nat) : Kept h (newRow h cs es an) [] := ⟨by simp, fun c hc _ => by simp [hc]⟩

/-- A list that is being built: nil, or a row of its own, full to its end. -/
def Bld (ok : Nat → Prop) (w : Nat) (R : H → List Value → α → Prop) (h : H) (v : Value) (xs : List α) : Prop :=
  (v = .slice none 0 0 ∧ xs = []) ∨
  ∃ b cs an, v = .slice (some ⟨b, 0, none⟩) xs.length xs.length ∧ ok b ∧ hget h b = some (.cells cs w true an) ∧ cs.length = xs.length * w ∧ ∀ (i : Nat) (x : α), xs[i]? = some x → R h ((cs.drop (i * w)).take w) x

theorem Bld.sl (s : Bld ok w R h v xs) : SlR ok w R h v xs := by
  rcases s with ⟨e, e'⟩ | ⟨b, cs, an, e, hk, hb, hl, hi⟩
  · exact .inl ⟨.inl e, e'⟩
  · refine .inr ⟨b, 0, xs.length, cs, e, Nat.le_refl _, hk, cel_of hb, fun i x hx => ⟨?_, ?_⟩⟩
    · have hi' := (List.getElem?_eq_some_iff.1 hx).1
      have : (i + 1) * w ≤ xs.length * w := Nat.mul_le_mul_right _ hi'
      rw [Nat.add_mul] at this
      omega
    · rw [Nat.zero_add]; exact hi i x hx

theorem Bld.nil (ok : Nat → Prop) (w : Nat) (R : H → List Value → α → Prop) (h : H) : Bld ok w R h (.slice none 0 0) [] := .inl ⟨rfl, rfl⟩

theorem Bld.ne (s : Bld ok w R h v xs) {b : Nat} (hb : ¬ ok b) : ∀ o n c, v ≠ .slice (some ⟨b, o, none⟩) n c := by
  rintro o n c e
  rcases s with ⟨rfl, _⟩ | ⟨b', cs, an, e', hk, _⟩
  · cases e
  · rw [e'] at e
    injection e with e1
    injection e1 with e1
    injection e1 with e1
    exact hb (e1 ▸ hk)

theorem Bld.kept (s : Bld ok w R h v xs) (k : Kept h h' L) (hL : ∀ b ∈ L, ¬ ok b) (hR : ∀ cs, ∀ x ∈ xs, R h cs x → R h' cs x) : Bld ok w R h' v xs := by
  rcases s with s | ⟨b, cs, an, e, hk, hb, hl, hi⟩
  · exact .inl s
  · exact .inr ⟨b, cs, an, e, hk, (k.get (lt_of_get hb) (fun q => hL b q hk)).trans hb, hl, fun i x hx => hR _ _ (List.mem_of_getElem? hx) (hi i x hx)⟩

theorem Bld.frame (s : Bld ok w R h v xs) (k : Kept h h' []) (hR : ∀ cs x, R h cs x → R h' cs x) : Bld ok w R h' v xs :=
  s.kept k (by simp) fun cs x _ q => hR cs x q

theorem drop_take_append (cs new : List Value) (n w i : Nat) (hl : cs.length = n * w) (hi : i < n) : ((cs ++ new).drop (i * w)).take w = (cs.drop (i * w)).take w := by
  have h1 : (i + 1) * w ≤ n * w := Nat.mul_le_mul_right _ hi
  rw [Nat.add_mul] at h1
  rw [List.drop_append, List.take_append]
  have h2 : (List.drop (i * w) cs).length = n * w - i * w := by rw [List.length_drop, hl]
  have h3 : w - (List.drop (i * w) cs).length = 0 := by omega
  rw [h3, List.take_zero, List.append_nil]

theorem take_at_end (cs new : List Value) (n w : Nat) (hl : cs.length = n * w) (hn : new.length = w) : ((cs ++ new).drop (n * w)).take w = new := by
  rw [← hl, List.drop_left]
  exact List.take_of_length_le (by omega)

theorem take_in_end (cs new : List Value) (n w j : Nat) (hl : cs.length = n * w) : ((cs ++ new).drop ((n + j) * w)).take w = (new.drop (j * w)).take w := by
  rw [Nat.add_mul, ← hl, ← List.drop_drop, List.drop_left]

/-- Elements put behind. -/
theorem Bld.appN {bytes : Nat} (s : Bld ok w R h v xs) {new : List Value} {ys : List α} (hn : new.length = ys.length * w) (hb : (xs.length + ys.length) * bytes ≤ 2 ^ 47)
    (hok : ok h.size) (hR : ∀ h', KeptC h h' [] → ∀ cs, ∀ y ∈ xs, R h cs y → R h' cs y) (hx : ∀ h', KeptC h h' [] → ∀ (i : Nat) (y : α), ys[i]? = some y → R h' ((new.drop (i * w)).take w) y) :
    Ans (appendTo h w bytes v ys.length new) fun v' h' => Bld ok w R h' v' (xs ++ ys) ∧ KeptC h h' [] ∧ h'.size ≤ h.size + 1 ∧ (∀ b, b < h.size → (∀ o n c, v ≠ .slice (some ⟨b, o, none⟩) n c) → hget h' b = hget h b) ∧ (v' = v ∨ ∃ n c, v' = .slice (some ⟨h.size, 0, none⟩) n c) := by
  by_cases hz : ys.length = 0
  · have hys : ys = [] := List.length_eq_zero_iff.1 hz
    subst hys
    have e : appendTo h w bytes v 0 new = some (v, h) := by
      rcases s with ⟨rfl, rfl⟩ | ⟨b, cs, an, rfl, _⟩ <;> simp [appendTo]
    exact ⟨v, h, e, by simpa using s, KeptC.refl _ _, by omega, fun _ _ _ => rfl, .inl rfl⟩
  rcases s with ⟨rfl, rfl⟩ | ⟨b, cs, an, rfl, hk, hg, hl, hi⟩
  · have kc : KeptC h (newRow h new w []) [] := ⟨by simp, fun c hc _ => cel_congr (by simp [hc])⟩
    have hb' : ys.length * bytes ≤ 140737488355328 := by simpa using hb
    have hz' : ¬ ys = [] := fun e => hz (by rw [e]; rfl)
    refine ⟨.slice (some ⟨h.size, 0, none⟩) ys.length ys.length, newRow h new w [], ?_, ?_, kc, by simp, fun c hc _ => by simp [hc], .inr ⟨_, _, rfl⟩⟩
    · simp [appendTo, hb', hz']
    · exact .inr ⟨h.size, new, [], rfl, hok, by simp, by simpa using hn, fun i y hy => hx _ kc i y (by simpa using hy)⟩
  · have hbs := lt_of_get hg
    have kc : KeptC h (newRow (h.setIfInBounds b (.cells cs w false an)) (cs ++ new) w (b :: an)) [] := by
      refine ⟨by simp, fun c hc _ => ?_⟩
      by_cases e : b = c
      · subst e
        rw [cel_of hg]
        exact cel_of (es := w) (lv := false) (an := an) (by simp [hbs])
      · exact cel_congr (by simp [hc, e])
    have e2 : cs.take (xs.length * w) = cs := List.take_of_length_le (by omega)
    refine ⟨.slice (some ⟨h.size, 0, none⟩) (xs.length + ys.length) (xs.length + ys.length), newRow (h.setIfInBounds b (.cells cs w false an)) (cs ++ new) w (b :: an), ?_, ?_, kc, by simp, ?_, .inr ⟨_, _, rfl⟩⟩
    · have hb' : (xs.length + ys.length) * bytes ≤ 140737488355328 := by simpa using hb
      have hz' : ¬ ys = [] := fun e => hz (by rw [e]; rfl)
      have hnl : ¬ xs.length + ys.length ≤ xs.length := by omega
      simp [appendTo, hb', hg, hl, e2, hnl, hz']
    · refine .inr ⟨h.size, cs ++ new, b :: an, by simp, hok, by simp, by simp [hl, hn, Nat.add_mul], ?_⟩
      intro i y hy
      by_cases hi' : i < xs.length
      · rw [List.getElem?_append_left hi'] at hy
        rw [drop_take_append cs new xs.length w i hl hi']
        exact hR _ kc _ _ (List.mem_of_getElem? hy) (hi i y hy)
      · rw [List.getElem?_append_right (by omega)] at hy
        have := take_in_end cs new xs.length w (i - xs.length) hl
        rw [show xs.length + (i - xs.length) = i by omega] at this
        rw [this]
        exact hx _ kc _ _ hy
    · intro c hc hn'
      have : ¬ b = c := fun e => hn' 0 _ _ (by rw [e])
      simp [hc, this]

/-- One element put behind. -/
theorem Bld.app {bytes : Nat} (s : Bld ok w R h v xs) {new : List Value} {x : α} (hn : new.length = w) (hb : (xs.length + 1) * bytes ≤ 2 ^ 47)
    (hok : ok h.size) (hR : ∀ h', KeptC h h' [] → ∀ cs, ∀ y ∈ xs, R h cs y → R h' cs y) (hx : ∀ h', KeptC h h' [] → R h' new x) :
    Ans (appendTo h w bytes v 1 new) fun v' h' => Bld ok w R h' v' (xs ++ [x]) ∧ KeptC h h' [] ∧ h'.size ≤ h.size + 1 ∧ (∀ b, b < h.size → (∀ o n c, v ≠ .slice (some ⟨b, o, none⟩) n c) → hget h' b = hget h b) ∧ (v' = v ∨ ∃ n c, v' = .slice (some ⟨h.size, 0, none⟩) n c) := by
  refine s.appN (ys := [x]) (by simpa using hn) hb hok hR fun h' k i y hy => ?_
  cases i with
  | succ i => simp at hy
  | zero =>
    simp at hy
    subst hy
    rw [Nat.zero_mul, List.drop_zero, List.take_of_length_le (by omega)]
    exact hx h' k

/-- A slice of what nobody changes, handed in. -/
theorem SlR.src (s : SlR ok w R h v xs) (hw : 0 < w) (hcs : ∀ cs, ∀ x ∈ xs, R h cs x → cs.length = w) : ∃ new, srcOf h w v = some (xs.length, new) ∧ new.length = xs.length * w ∧ ∀ (i : Nat) (x : α), xs[i]? = some x → R h ((new.drop (i * w)).take w) x := by
  rcases s with ⟨rfl | rfl, rfl⟩ | ⟨b, o, c, cs, rfl, hc, hk, hb, hi⟩
  · exact ⟨[], by simp [srcOf], by simp, by simp⟩
  · exact ⟨[], by simp [srcOf], by simp, by simp⟩
  · obtain ⟨es', lv, an, hg⟩ := cel_inv hb
    by_cases hz : xs.length = 0
    · have hx : xs = [] := List.length_eq_zero_iff.1 hz
      subst hx
      exact ⟨[], by simp [srcOf], by simp, by simp⟩
    · have hlast := hi (xs.length - 1) xs[xs.length - 1] (List.getElem?_eq_getElem (by omega))
      have hle : o + xs.length * w ≤ cs.length := by
        have h1 := hlast.1
        have : (xs.length - 1) * w + w = xs.length * w := by
          rw [← Nat.succ_mul]; congr 1; omega
        omega
      refine ⟨(cs.drop o).take (xs.length * w), ?_, ?_, ?_⟩
      · simp [srcOf, hz, rd, hg, hle]
      · rw [List.length_take, List.length_drop]; omega
      · intro i x hx
        have hi' := (List.getElem?_eq_some_iff.1 hx).1
        have h1 : (i + 1) * w ≤ xs.length * w := Nat.mul_le_mul_right _ hi'
        rw [Nat.add_mul] at h1
        have := (hi i x hx).2
        rw [List.drop_take, List.take_take, List.drop_drop, Nat.min_eq_left (by omega)]
        exact this

end

end Go.Ev

/- Ev22: parts of slices. -/
set_option linter.unusedSimpArgs false
set_option linter.unusedVariables false
namespace Go.Ev

/-- A part of a slice. -/
def slcV (size : Nat) (v : Value) (lo hi : Option Value) : Option Value := match v with
    | .slice none 0 0 => match optInt hi 0 with
      | some q => match optInt lo 0 with
        | some p => if p ≤ q ∧ q ≤ 0 then some (.slice none 0 0) else none
        | none => none
      | none => none
    | .slice (some ⟨b, o, none⟩) n c => match optInt hi n with
      | some q => match optInt lo 0 with
        | some p => if p ≤ q ∧ q ≤ c then some (.slice (some ⟨b, o + p * size, none⟩) (q - p) (c - p)) else none
        | none => none
      | none => none
    | _ => none

@[simp ↓ high] theorem evOp_slice {size : Nat} {x : Operand} {lo hi : Option Operand} {s : Env} {h : H} : evOp (.slice size x lo hi) s h = (slcV size (aeval s x) (lo.map (aeval s)) (hi.map (aeval s))).map fun v => (v, h) := by
  show (match aeval s x with
    | .slice none 0 0 => match optInt (hi.map (aeval s)) 0 with
      | some q => match optInt (lo.map (aeval s)) 0 with
        | some p => if p ≤ q ∧ q ≤ 0 then some (Value.slice none 0 0, h) else none
        | none => none
      | none => none
    | .slice (some ⟨b, o, none⟩) n c => match optInt (hi.map (aeval s)) n with
      | some q => match optInt (lo.map (aeval s)) 0 with
        | some p => if p ≤ q ∧ q ≤ c then some (.slice (some ⟨b, o + p * size, none⟩) (q - p) (c - p), h) else none
        | none => none
      | none => none
    | _ => none) = _
  unfold slcV
  split
  · split
    · split
      · split <;> rfl
      · rfl
    · rfl
  · split
    · split
      · split <;> rfl
      · rfl
    · rfl
  · rfl

section
variable {α : Type} {ok : Nat → Prop} {w : Nat} {R : H → List Value → α → Prop} {h : H} {v : Value} {xs : List α}

/-- The first ones. -/
theorem Bld.take (s : Bld ok w R h v xs) {n : Nat} (hn : n ≤ xs.length) : ∃ v', slcV w v none (some (.int .i64 n)) = some v' ∧ SlR ok w R h v' (xs.take n) := by
  rcases s with ⟨rfl, rfl⟩ | ⟨b, cs, an, rfl, hk, hb, hl, hi⟩
  · simp at hn; subst hn
    exact ⟨.slice none 0 0, by simp [slcV, optInt], .inl ⟨.inl rfl, rfl⟩⟩
  · refine ⟨.slice (some ⟨b, 0, none⟩) n xs.length, by simp [slcV, optInt, hn], .inr ⟨b, 0, xs.length, cs, ?_, by simp; omega, hk, cel_of hb, ?_⟩⟩
    · rw [List.length_take, Nat.min_eq_left hn]
    · intro i x hx
      have hi' := (List.getElem?_eq_some_iff.1 hx).1
      simp at hi'
      rw [List.getElem?_take, if_pos (by omega)] at hx
      refine ⟨?_, ?_⟩
      · have : (i + 1) * w ≤ xs.length * w := Nat.mul_le_mul_right _ (by omega)
        rw [Nat.add_mul] at this
        omega
      · rw [Nat.zero_add]; exact hi i x hx

/-- All but the first ones. -/
theorem Bld.drop (s : Bld ok w R h v xs) {n : Nat} (hn : n ≤ xs.length) : ∃ v', slcV w v (some (.int .i64 n)) none = some v' ∧ SlR ok w R h v' (xs.drop n) := by
  rcases s with ⟨rfl, rfl⟩ | ⟨b, cs, an, rfl, hk, hb, hl, hi⟩
  · simp at hn; subst hn
    exact ⟨.slice none 0 0, by simp [slcV, optInt], .inl ⟨.inl rfl, rfl⟩⟩
  · refine ⟨.slice (some ⟨b, 0 + n * w, none⟩) (xs.length - n) (xs.length - n), by simp [slcV, optInt, hn], .inr ⟨b, 0 + n * w, xs.length - n, cs, ?_, by simp, hk, cel_of hb, ?_⟩⟩
    · rw [List.length_drop]
    · intro i x hx
      rw [List.getElem?_drop] at hx
      have hi' := (List.getElem?_eq_some_iff.1 hx).1
      refine ⟨?_, ?_⟩
      · have : (n + i + 1) * w ≤ xs.length * w := Nat.mul_le_mul_right _ (by omega)
        rw [Nat.add_mul, Nat.add_mul] at this
        omega
      · have := hi (n + i) x hx
        rw [Nat.add_mul] at this
        rw [Nat.zero_add]; exact this
end

end Go.Ev

/- The document's line: what it is in memory; find, Look. -/
set_option linter.unusedSimpArgs false
set_option linter.unusedVariables false
namespace Go.Proofs.Ytmenfnapbggglaa
open Go.Ev

theorem _root_.Go.Ev.Keeps.kept {h h' : H} {S : Nat → Prop} (k : Keeps h h' S) {L : List Nat} (hL : ∀ b, S b → b ∈ L) : Kept h h' L :=
  ⟨k.1, fun b hb hn => k.2 b hb (fun q => hn (hL b q))⟩
theorem _root_.Go.Ev.Kept.keeps {h h' : H} {L : List Nat} (k : Kept h h' L) {S : Nat → Prop} (hL : ∀ b ∈ L, S b) : Keeps h h' S :=
  ⟨k.1, fun b hb hn => k.get hb (fun q => hn (hL b q))⟩

def MsgC (h : H) (cs : List Value) (m : Msg) : Prop := cs = m.cells
def PclC (h : H) (cs : List Value) (p : Int × Parcel) : Prop := cs = [.int .i64 p.1, .int .i64 p.2.1.fr, .int .i64 p.2.1.to, .string p.2.1.b, .bool p.2.2]

def RefL (ok : Nat → Prop) (h : H) (cs : List Value) (fl : Flight) (last : Int) (nn : Bool) : Prop := ∃ v, cs = [v, .int .i64 last, .bool nn] ∧ SlR ok 5 PclC h v fl

section
variable {ok ok' : Nat → Prop} {h h' : H} {v : Value} {L : List Nat}
theorem SlM.imp {xs : List Msg} (s : SlR ok 3 MsgC h v xs) (h1 : ∀ b, b < h.size → ok b → ok' b) (h3 : ∀ b cs, ok b → cel h b = some cs → cel h' b = some cs) : SlR ok' 3 MsgC h' v xs :=
  s.imp h1 (fun _ _ _ q => q) h3
theorem SlF.imp {xs : Flight} (s : SlR ok 5 PclC h v xs) (h1 : ∀ b, b < h.size → ok b → ok' b) (h3 : ∀ b cs, ok b → cel h b = some cs → cel h' b = some cs) : SlR ok' 5 PclC h' v xs :=
  s.imp h1 (fun _ _ _ q => q) h3
theorem RefL.imp {cs : List Value} {fl : Flight} {last : Int} {nn : Bool} (s : RefL ok h cs fl last nn) (h1 : ∀ b, b < h.size → ok b → ok' b) (h3 : ∀ b cs, ok b → cel h b = some cs → cel h' b = some cs) : RefL ok' h' cs fl last nn := by
  obtain ⟨v, e, s⟩ := s
  exact ⟨v, e, SlF.imp s h1 h3⟩
theorem RefL.now {cs : List Value} {fl : Flight} {last : Int} {nn : Bool} (s : RefL ok h cs fl last nn) : RefL (fun c => ok c ∧ c < h.size) h cs fl last nn :=
  s.imp (fun c hc q => ⟨q, hc⟩) (fun _ _ _ e => e)
theorem keep_of (k : KeptC h h' L) (hL : ∀ b ∈ L, ¬ ok b) : ∀ b cs, ok b → cel h b = some cs → cel h' b = some cs :=
  fun b cs hk hb => (k.2 b (cel_lt hb) (fun q => hL b q hk)).trans hb
end

theorem pc_at {cs : List Value} {n : Nat} {p : Int × Parcel} {h : H} (q : PclC h ((cs.drop n).take 5) p) (hle : n + 5 ≤ cs.length) : (cs.drop n).take 5 = [.int .i64 p.1, .int .i64 p.2.1.fr, .int .i64 p.2.1.to, .string p.2.1.b, .bool p.2.2] ∧ (cs.drop n).take 1 = [.int .i64 p.1] ∧ (cs.drop (n + 1)).take 3 = [.int .i64 p.2.1.fr, .int .i64 p.2.1.to, .string p.2.1.b] ∧ (cs.drop (n + 4)).take 1 = [.bool p.2.2] := by
  have q : (cs.drop n).take 5 = [.int .i64 p.1, .int .i64 p.2.1.fr, .int .i64 p.2.1.to, .string p.2.1.b, .bool p.2.2] := q
  refine ⟨q, ?_, ?_, ?_⟩
  · have := congrArg (List.take 1) q
    rw [List.take_take] at this
    simpa using this
  · have := congrArg (fun z => (z.drop 1).take 3) q
    simp only [List.drop_take, List.drop_drop, List.take_take] at this
    simpa using this
  · have := congrArg (List.drop 4) q
    rw [List.drop_take, List.drop_drop] at this
    simpa using this

theorem lk_hit {n : Int} : ∀ {fl : Flight} {i k : Nat} {p : Parcel}, fl[i]? = some (n, p) → (∀ (j : Nat) q, j < i → fl[j]? = some q → q.1 ≠ n) → lk n fl k = some (k + i, p)
  | [], i, k, p, h, _ => by simp at h
  | a :: r, 0, k, p, h, _ => by
    simp at h
    subst h
    simp [lk]
  | a :: r, i + 1, k, p, h, hj => by
    have ha : n ≠ a.1 := fun e => hj 0 a (by omega) rfl e.symm
    unfold lk
    rw [if_neg ha, lk_hit (fl := r) (i := i) (k := k + 1) (p := p) (by simpa using h) (fun j q hji hq => hj (j + 1) q (by omega) (by simpa using hq))]
    congr 2
    omega

def fdM (n : Int) (fl : Flight) : Int := match lk n fl 0 with
  | some (i, _) => i
  | none => -1

theorem find_spec {F : Nat} (hF : 1000 ≤ F) {ok : Nat → Prop} {h : H} {cs : List Value} {fl : Flight} {last : Int} {nn : Bool} (s : RefL ok h cs fl last nn) (hl : fl.length ≤ 256) (n : Int) :
    Ans (cf F 48 [.agg ⟨cs⟩, .int .i64 n] h) fun u h' => u = .int .i64 (fdM n fl) ∧ Kept h h' [] := by
  generalize hQ : (fun (u : Value) (h' : H) => u = Value.int .i64 (fdM n fl) ∧ Kept h h' []) = Q
  obtain ⟨F, rfl⟩ : ∃ G, F = G + 1 := ⟨F - 1, by omega⟩
  obtain ⟨v, rfl, s⟩ := s
  have ov := s.one
  simp only [oneCell] at ov
  have hln := s.len
  rw [cf_step (a := a48) rfl rfl (by simp [a48])]
  simp (disch := first | omega | (simp only [newRow_size, Array.size_setIfInBounds, Array.size_push]; done) | (simp only [newRow_size, Array.size_setIfInBounds, Array.size_push]; omega)) [a48, r48_0, ov, r48_1]
  have kR := rowKept h [v, .int .i64 last, .bool nn] 0 []
  have hR : hget (Ev.newRow h [v, .int .i64 last, .bool nn] 0 []) h.size = some (.cells [v, .int .i64 last, .bool nn] 0 true []) := by simp
  generalize Ev.newRow h [v, .int .i64 last, .bool nn] 0 [] = g at kR hR ⊢
  have hRs := lt_of_get hR
  have sg := SlF.imp s (ok' := ok) (fun _ _ q => q) (keep_of kR.c (by simp))
  refine loop_rule (fun m e g' => ∃ (i : Nat), m = fl.length - i ∧ i ≤ fl.length ∧ e = [(1, .int .i64 n), (2, .pointer (some ⟨h.size, 0, none⟩)), (5, .int .i64 i)] ∧ g' = g ∧ (∀ (j : Nat) q, j < i → fl[j]? = some q → q.1 ≠ n)) ?_ _ fl.length _ _ (by omega) ⟨0, by omega, by omega, rfl, rfl, by intro j q hj; omega⟩
  rintro m e g' again ⟨i, rfl, hi, rfl, rfl, hno⟩ ih
  have hw : IntKind.i64.wrap ((i : Int) + 1) = ((i + 1 : Nat) : Int) := by rw [wrap_id (by omega) (by omega)]; rfl
  by_cases hlt : i < fl.length
  · obtain ⟨p, hp⟩ : ∃ p, fl[i]? = some p := ⟨_, List.getElem?_eq_getElem hlt⟩
    obtain ⟨b, o, c, csx, es, lv, an, rfl, hk, hg, hle, hpc⟩ := sg.at' hp
    obtain ⟨e5, e1, e3, e4⟩ := pc_at hpc hle
    have hgs := lt_of_get hg
    by_cases hpn : p.1 = n
    · have hm : fdM n fl = i := by unfold fdM; rw [lk_hit (p := p.2) (by rw [hp, ← hpn]) hno]; simp
      simp (disch := first | omega | (simp only [newRow_size, Array.size_setIfInBounds, Array.size_push]; done) | (simp only [newRow_size, Array.size_setIfInBounds, Array.size_push]; omega)) [l48_6, r48_2, hR, hln, eqT, eqF, neT, neF, ltT, ltF, leT, leF, nltT, nltF, nleT, nleF, nneT, nneF, List.getElem?_cons_zero, List.getElem?_cons_succ, r48_3, hg, e1, hpn, r48_4]
      subst hQ
      exact Ans.of ⟨by rw [hm], kR⟩
    · simp (disch := first | omega | (simp only [newRow_size, Array.size_setIfInBounds, Array.size_push]; done) | (simp only [newRow_size, Array.size_setIfInBounds, Array.size_push]; omega)) [l48_6, r48_2, hR, hln, eqT, eqF, neT, neF, ltT, ltF, leT, leF, nltT, nltF, nleT, nleF, nneT, nneF, List.getElem?_cons_zero, List.getElem?_cons_succ, r48_3, hg, e1, hpn, r48_5, hw]
      refine ih (fl.length - (i + 1)) _ _ (by omega) ⟨i + 1, rfl, by omega, rfl, rfl, ?_⟩
      intro j q hj hq
      by_cases e : j = i
      · subst e
        rw [hp] at hq
        cases hq
        exact hpn
      · exact hno j q (by omega) hq
  · have hm : fdM n fl = -1 := by
      unfold fdM
      rw [lk_none 0 (fun p hp => by
        obtain ⟨j, hj⟩ := List.getElem?_of_mem hp
        exact hno j p (by have := (List.getElem?_eq_some_iff.1 hj).1; omega) hj)]
    simp (disch := first | omega | (simp only [newRow_size, Array.size_setIfInBounds, Array.size_push]; done) | (simp only [newRow_size, Array.size_setIfInBounds, Array.size_push]; omega)) [l48_6, r48_2, hR, hln, eqT, eqF, neT, neF, ltT, ltF, leT, leF, nltT, nltF, nleT, nleF, nneT, nneF, List.getElem?_cons_zero, List.getElem?_cons_succ, r48_7]
    subst hQ
    exact Ans.of ⟨by rw [hm], kR⟩

theorem fd_some {n : Int} {fl : Flight} {i : Nat} {p : Parcel} (e : lk n fl 0 = some (i, p)) : fdM n fl = i := by unfold fdM; rw [e]
theorem fd_none {n : Int} {fl : Flight} (e : lk n fl 0 = none) : fdM n fl = -1 := by unfold fdM; rw [e]

theorem lk_get {n : Int} : ∀ {fl : Flight} {i k : Nat} {p : Parcel}, lk n fl k = some (i, p) → k ≤ i ∧ fl[i - k]? = some (n, p)
  | [], i, k, p, h => by simp [lk] at h
  | a :: r, i, k, p, h => by
    unfold lk at h
    split at h
    · rename_i e
      cases h
      refine ⟨Nat.le_refl _, ?_⟩
      rw [Nat.sub_self]
      simp [e]
    · obtain ⟨h1, h2⟩ := lk_get h
      refine ⟨by omega, ?_⟩
      rw [show i - k = (i - (k + 1)) + 1 by omega]
      simpa using h2

/-- Look's answer. -/
def lookM (n : Int) (fl : Flight) : Msg × Int := match lk n fl 0 with
  | some (_, p) => (p.1, 0)
  | none => (Msg.zero, 160)

theorem refLook_spec {F : Nat} (hF : 1001 ≤ F) {ok : Nat → Prop} {h : H} {cs : List Value} {fl : Flight} {last : Int} {nn : Bool} (s : RefL ok h cs fl last nn) (hl : fl.length ≤ 256) (n : Int) :
    Ans (cf F 40 [.agg ⟨cs⟩, .int .i64 n] h) fun u h' => u = .tuple ⟨[(lookM n fl).1.val, .int .i64 (lookM n fl).2]⟩ ∧ Kept h h' [] := by
  generalize hQ : (fun (u : Value) (h' : H) => u = Value.tuple ⟨[(lookM n fl).1.val, .int .i64 (lookM n fl).2]⟩ ∧ Kept h h' []) = Q
  obtain ⟨F, rfl⟩ : ∃ G, F = G + 1 := ⟨F - 1, by omega⟩
  obtain ⟨v, hcs, s⟩ := id s
  have ov := s.one
  simp only [oneCell] at ov
  rw [cf_step (a := a40) rfl rfl (by simp [a40]), hcs]
  simp (disch := first | omega | (simp only [newRow_size, Array.size_setIfInBounds, Array.size_push]; done) | (simp only [newRow_size, Array.size_setIfInBounds, Array.size_push]; omega)) [a40, r40_0, ov, r40_1]
  generalize hz : [Value.int .i64 0, .int .i64 0, .string ⟨#[]⟩] = zz
  generalize hc' : [v, .int .i64 last, .bool nn] = cs'
  have kR : Kept h (Ev.newRow (Ev.newRow h cs' 0 []) zz 0 []) [] := (rowKept _ _ _ _).trans (rowKept _ _ _ _)
  have hR : hget (Ev.newRow (Ev.newRow h cs' 0 []) zz 0 []) h.size = some (.cells cs' 0 true []) := by simp (disch := first | omega | (simp only [newRow_size, Array.size_setIfInBounds, Array.size_push]; done) | (simp only [newRow_size, Array.size_setIfInBounds, Array.size_push]; omega)) []
  have hR2 : hget (Ev.newRow (Ev.newRow h cs' 0 []) zz 0 []) (h.size + 1) = some (.cells zz 0 true []) := by simp (disch := first | omega | (simp only [newRow_size, Array.size_setIfInBounds, Array.size_push]; done) | (simp only [newRow_size, Array.size_setIfInBounds, Array.size_push]; omega)) []
  generalize Ev.newRow (Ev.newRow h cs' 0 []) zz 0 [] = g at kR hR hR2 ⊢
  subst hz hc'
  have sg := SlF.imp s (ok' := ok) (fun _ _ q => q) (keep_of kR.c (by simp))
  refine Ans.next (find_spec (F := F) (by omega) ⟨v, rfl, sg⟩ hl n) ?_
  rintro u g2 ⟨rfl, k2⟩
  have y2 := k2.1
  have hRs := lt_of_get hR
  have hR2s := lt_of_get hR2
  have hR' := (k2.get hRs (by simp)).trans hR
  have hR2' := (k2.get hR2s (by simp)).trans hR2
  have sg2 := SlF.imp sg (ok' := ok) (fun _ _ q => q) (keep_of k2.c (by simp))
  have fin : ∀ (c : List Value), Kept h (g2.setIfInBounds (h.size + 1) (.cells c 0 true [])) [] := fun c => ⟨by simp; have := kR.1; omega, fun x hx _ => by rw [set_other (by omega)]; exact (k2.get (by have := kR.1; omega) (by simp)).trans (kR.get hx (by simp))⟩
  cases hlk : lk n fl 0 with
  | none =>
    simp (disch := first | omega | (simp only [newRow_size, Array.size_setIfInBounds, Array.size_push]; done) | (simp only [newRow_size, Array.size_setIfInBounds, Array.size_push]; omega)) [fd_none hlk, r40_2, eqT, eqF, neT, neF, ltT, ltF, leT, leF, nltT, nltF, nleT, nleF, nneT, nneF, List.getElem?_cons_zero, List.getElem?_cons_succ, r40_3, hR2']
    subst hQ
    refine Ans.of ⟨by simp [lookM, hlk, Msg.zero, Msg.val, Msg.cells], fin _⟩
  | some q =>
    obtain ⟨i, p⟩ := q
    obtain ⟨_, hp⟩ := lk_get hlk
    rw [Nat.sub_zero] at hp
    have hil := (List.getElem?_eq_some_iff.1 hp).1
    obtain ⟨b, o, c, csx, es, lv, an, rfl, hk, hg, hle, hpc⟩ := sg2.at' hp
    obtain ⟨e5, e1, e3, e4⟩ := pc_at hpc hle
    have hgs := lt_of_get hg
    simp (disch := first | omega | (simp only [newRow_size, Array.size_setIfInBounds, Array.size_push]; done) | (simp only [newRow_size, Array.size_setIfInBounds, Array.size_push]; omega)) [fd_some hlk, r40_2, eqT, eqF, neT, neF, ltT, ltF, leT, leF, nltT, nltF, nleT, nleF, nneT, nneF, List.getElem?_cons_zero, List.getElem?_cons_succ, r40_4, hR', hg, e3, hR2']
    subst hQ
    refine Ans.of ⟨by simp [lookM, hlk, Msg.val, Msg.cells], fin _⟩

end Go.Proofs.Ytmenfnapbggglaa

/- The document's line: put. -/
set_option linter.unusedSimpArgs false
set_option linter.unusedVariables false
namespace Go.Ev
/-- One element put behind, where what the elements say does not depend on memory. -/
theorem Bld.push {α : Type} {w bytes B : Nat} {R : H → List Value → α → Prop} {h : H} {v : Value} {xs : List α} (hRR : ∀ h h' cs x, R h cs x → R h' cs x) (s : Bld (fun c => B ≤ c) w R h v xs) {new : List Value} {x : α} (hn : new.length = w) (hb : (xs.length + 1) * bytes ≤ 2 ^ 47) (hB : B ≤ h.size) (hx : R h new x) :
    Ans (appendTo h w bytes v 1 new) fun v' h' => Bld (fun c => B ≤ c) w R h' v' (xs ++ [x]) ∧ h.size ≤ h'.size ∧ (∀ b, b < B → hget h' b = hget h b) ∧ KeptC h h' [] := by
  refine (s.app (x := x) hn hb hB (fun h' _ cs y _ q => hRR _ _ _ _ q) (fun h' _ => hRR _ _ _ _ hx)).mono ?_
  rintro v' h' ⟨b3, k3, y3, g3, _⟩
  exact ⟨b3, k3.1, fun b hb => g3 b (by omega) (s.ne (by omega)), k3⟩
end Go.Ev
namespace Go.Proofs.Ytmenfnapbggglaa
open Go.Ev

theorem take_snoc {α : Type} {l : List α} {i : Nat} {x : α} (h : l[i]? = some x) : l.take (i + 1) = l.take i ++ [x] := by
  rw [List.take_add_one, h]; rfl
theorem pcl_any (h h' : H) (cs : List Value) (x : Int × Parcel) (q : PclC h cs x) : PclC h' cs x := q
theorem msg_any (h h' : H) (cs : List Value) (x : Msg) (q : MsgC h cs x) : MsgC h' cs x := q

/-- put. -/
def putR (nn : Bool) (fl : Flight) (last : Int) (p : Parcel) : Flight × Int × Int :=
  if nn = true ∨ 256 ≤ fl.length then (fl, last, -1) else (fl ++ [(last + 1, p)], last + 1, last + 1)

def RPost (ok : Nat → Prop) (h : H) (nn : Bool) (r : Flight × Int × Int) (v : Value) (h' : H) : Prop := ∃ cs, v = .tuple ⟨[.agg ⟨cs⟩, .int .i64 r.2.2]⟩ ∧ RefL ok h' cs r.1 r.2.1 nn ∧ Kept h h' []

set_option maxHeartbeats 1000000 in
theorem refPut_spec {F : Nat} (hF : 1000 ≤ F) {ok : Nat → Prop} {h : H} {cs : List Value} {fl : Flight} {last : Int} {nn : Bool} (s : RefL ok h cs fl last nn) (hok : ∀ c, h.size ≤ c → ok c) (hl : fl.length ≤ 256) (hlast : 0 ≤ last ∧ last ≤ 1000000000) (p : Parcel) :
    Ans (cf F 47 [.agg ⟨cs⟩, .agg ⟨p.1.cells⟩, .bool p.2] h) (RPost ok h nn (putR nn fl last p)) := by
  generalize hQ : RPost ok h nn (putR nn fl last p) = Q
  obtain ⟨F, rfl⟩ : ∃ G, F = G + 1 := ⟨F - 1, by omega⟩
  obtain ⟨v, rfl, s⟩ := s
  have ov := s.one
  simp only [oneCell] at ov
  have hln := s.len
  rw [cf_step (a := a47) rfl rfl (by simp [a47])]
  simp (disch := first | omega | (simp only [newRow_size, Array.size_setIfInBounds, Array.size_push]; done) | (simp only [newRow_size, Array.size_setIfInBounds, Array.size_push]; omega)) [a47, r47_0, ov, Msg.cells]
  generalize hz : [Value.slice none 0 0, .int .i64 0, .bool false] = zz
  generalize hm : [Value.int .i64 p.1.fr, .int .i64 p.1.to, .string p.1.b] = ms
  generalize hc' : [v, .int .i64 last, .bool nn] = cs'
  have kR : Kept h (Ev.newRow (Ev.newRow (Ev.newRow h cs' 0 []) ms 0 []) zz 0 []) [] := ((rowKept _ _ _ _).trans (rowKept _ _ _ _)).trans (rowKept _ _ _ _)
  have m0 : hget (Ev.newRow (Ev.newRow (Ev.newRow h cs' 0 []) ms 0 []) zz 0 []) h.size = some (.cells cs' 0 true []) := by simp (disch := first | omega | (simp only [newRow_size, Array.size_setIfInBounds, Array.size_push]; done) | (simp only [newRow_size, Array.size_setIfInBounds, Array.size_push]; omega)) []
  have m1 : hget (Ev.newRow (Ev.newRow (Ev.newRow h cs' 0 []) ms 0 []) zz 0 []) (h.size + 1) = some (.cells ms 0 true []) := by simp (disch := first | omega | (simp only [newRow_size, Array.size_setIfInBounds, Array.size_push]; done) | (simp only [newRow_size, Array.size_setIfInBounds, Array.size_push]; omega)) []
  have m2 : hget (Ev.newRow (Ev.newRow (Ev.newRow h cs' 0 []) ms 0 []) zz 0 []) (h.size + 2) = some (.cells zz 0 true []) := by simp (disch := first | omega | (simp only [newRow_size, Array.size_setIfInBounds, Array.size_push]; done) | (simp only [newRow_size, Array.size_setIfInBounds, Array.size_push]; omega)) []
  have zR : (Ev.newRow (Ev.newRow (Ev.newRow h cs' 0 []) ms 0 []) zz 0 []).size = h.size + 3 := by simp
  generalize Ev.newRow (Ev.newRow (Ev.newRow h cs' 0 []) ms 0 []) zz 0 [] = g at kR m0 m1 m2 zR ⊢
  subst hz hm hc'
  have sg := SlF.imp s (ok' := ok) (fun _ _ q => q) (keep_of kR.c (by simp))
  have fin : ∀ (g2 : H) (r : List Value), (∀ b, b < h.size → hget g2 b = hget h b) → h.size + 3 ≤ g2.size → Kept h (g2.setIfInBounds (h.size + 2) (.cells r 0 true [])) [] := by
    intro g2 r hg hz
    exact ⟨by simp; omega, fun c hc _ => by rw [set_other (by omega)]; exact hg c hc⟩
  by_cases hfull : nn = true ∨ 256 ≤ fl.length
  · have hm : putR nn fl last p = (fl, last, -1) := by unfold putR; rw [if_pos hfull]
    have hfin : Ans (some (Value.tuple ⟨[.agg ⟨[v, .int .i64 last, .bool nn]⟩, .int .i64 (-1)]⟩, g.setIfInBounds (h.size + 2) (.cells [v, .int .i64 last, .bool nn] 0 true []))) Q := by
      subst hQ
      rw [hm]
      refine Ans.of ⟨_, rfl, ⟨v, rfl, SlF.imp s (fun _ _ q => q) (keep_of (fin g _ (fun b hb => kR.get hb (by simp)) (by omega)).c (by simp))⟩, fin g _ (fun b hb => kR.get hb (by simp)) (by omega)⟩
    cases nn with
    | true =>
      simp (disch := first | omega | (simp only [newRow_size, Array.size_setIfInBounds, Array.size_push]; done) | (simp only [newRow_size, Array.size_setIfInBounds, Array.size_push]; omega)) [r47_1, m0, eqT, eqF, neT, neF, ltT, ltF, leT, leF, nltT, nltF, nleT, nleF, nneT, nneF, List.getElem?_cons_zero, List.getElem?_cons_succ, r47_2, m2, ov]
      exact hfin
    | false =>
      have h256 : 256 ≤ fl.length := by rcases hfull with e | e; cases e; exact e
      simp (disch := first | omega | (simp only [newRow_size, Array.size_setIfInBounds, Array.size_push]; done) | (simp only [newRow_size, Array.size_setIfInBounds, Array.size_push]; omega)) [r47_1, m0, eqT, eqF, neT, neF, ltT, ltF, leT, leF, nltT, nltF, nleT, nleF, nneT, nneF, List.getElem?_cons_zero, List.getElem?_cons_succ, hln, r47_2, m2, ov]
      exact hfin
  · have hnf : nn = false := by cases nn <;> simp_all
    subst hnf
    have hm : putR false fl last p = (fl ++ [(last + 1, p)], last + 1, last + 1) := by unfold putR; rw [if_neg hfull]
    have h256 : ¬ 256 ≤ fl.length := fun e => hfull (.inr e)
    have hwl : IntKind.i64.wrap (last + 1) = last + 1 := wrap_id (by omega) (by omega)
    simp (disch := first | omega | (simp only [newRow_size, Array.size_setIfInBounds, Array.size_push]; done) | (simp only [newRow_size, Array.size_setIfInBounds, Array.size_push]; omega)) [r47_1, m0, eqT, eqF, neT, neF, ltT, ltF, leT, leF, nltT, nltF, nleT, nleF, nneT, nneF, List.getElem?_cons_zero, List.getElem?_cons_succ, hln, r47_3, hwl, r47_4]
    refine loop_rule (fun m e g' => ∃ (i : Nat) (u : Value), m = fl.length - i ∧ i ≤ fl.length ∧ e = [(2, .bool p.2), (3, .pointer (some ⟨h.size, 0, none⟩)), (4, .pointer (some ⟨h.size + 1, 0, none⟩)), (6, .pointer (some ⟨h.size + 2, 0, none⟩)), (8, .pointer (some ⟨h.size + 3, 0, none⟩)), (9, .int .i64 i)] ∧
      (∀ b, b < h.size + 3 → hget g' b = hget g b) ∧ hget g' (h.size + 3) = some (.cells [u, .int .i64 (last + 1), .bool false] 0 true []) ∧ Bld (fun c => h.size + 4 ≤ c) 5 PclC g' u (fl.take i)) ?_ _ fl.length _ _ (by omega) ⟨0, .slice none 0 0, by omega, by omega, by rw [zR]; rfl, fun b hb => by simp (disch := first | omega | (simp only [newRow_size, Array.size_setIfInBounds, Array.size_push]; done) | (simp only [newRow_size, Array.size_setIfInBounds, Array.size_push]; omega)) [], by rw [← zR]; simp, Bld.nil _ _ _ _⟩
    rintro m e g' again ⟨i, u, rfl, hi, rfl, kg, n3, bu⟩ ih
    have n3s := lt_of_get n3
    have n0 := (kg h.size (by omega)).trans m0
    have n1 := (kg (h.size + 1) (by omega)).trans m1
    have n2 := (kg (h.size + 2) (by omega)).trans m2
    have sg' : SlR (fun c => ok c ∧ c < h.size) 5 PclC g' v fl := SlF.imp s (fun c hc q => ⟨q, hc⟩) (fun b zs hb hz => (cel_congr ((kg b (by have := cel_lt hz; omega)).trans (kR.get (cel_lt hz) (by simp)))).trans hz)
    have hw1 : IntKind.i64.wrap ((i : Int) + 1) = ((i + 1 : Nat) : Int) := by rw [wrap_id (by omega) (by omega)]; rfl
    have ou := bu.sl.one
    have vu := bu.sl.vc
    simp only [oneCell] at ou
    simp only [vcells] at vu
    by_cases hlt : i < fl.length
    · obtain ⟨x, hx⟩ : ∃ x, fl[i]? = some x := ⟨_, List.getElem?_eq_getElem hlt⟩
      obtain ⟨b, o, c, csx, es, lv, an, rfl, hk, hg, hle, hpc⟩ := sg'.at' hx
      obtain ⟨e5, e1, e3, e4⟩ := pc_at hpc hle
      have hgs := lt_of_get hg
      simp (disch := first | omega | (simp only [newRow_size, Array.size_setIfInBounds, Array.size_push]; done) | (simp only [newRow_size, Array.size_setIfInBounds, Array.size_push]; omega)) [l47_8, r47_5, n0, hln, eqT, eqF, neT, neF, ltT, ltF, leT, leF, nltT, nltF, nleT, nleF, nneT, nneF, List.getElem?_cons_zero, List.getElem?_cons_succ, d47_6, n3, hg, e5, srcOf]
      have kN := rowKept g' [.int .i64 x.1, .int .i64 x.2.1.fr, .int .i64 x.2.1.to, .string x.2.1.b, .bool x.2.2] 5 []
      have bN := bu.kept kN (by simp) (fun cs t _ q => q)
      refine Ans.nextE (bN.push (x := x) (bytes := 48) pcl_any rfl (by rw [List.length_take]; omega) (by simp; omega) rfl) ?_
      rintro u' h5 ⟨b5, z5, g5, _⟩
      have ou' := b5.sl.one
      have vu' := b5.sl.vc
      simp only [oneCell] at ou'
      simp only [vcells] at vu'
      simp only [newRow_size] at z5
      have q3 := (g5 (h.size + 3) (by omega)).trans ((kN.get n3s (by simp)).trans n3)
      simp (disch := first | omega | (simp only [newRow_size, Array.size_setIfInBounds, Array.size_push]; done) | (simp only [newRow_size, Array.size_setIfInBounds, Array.size_push]; omega)) [q3, ou', vu', eqT, eqF, neT, neF, ltT, ltF, leT, leF, nltT, nltF, nleT, nleF, nneT, nneF, List.getElem?_cons_zero, List.getElem?_cons_succ, r47_7, hw1]
      refine ih (fl.length - (i + 1)) _ _ (by omega) ⟨i + 1, u', rfl, by omega, rfl, ?_, by simp (disch := first | omega | (simp only [newRow_size, Array.size_setIfInBounds, Array.size_push]; done) | (simp only [newRow_size, Array.size_setIfInBounds, Array.size_push]; omega)) [], ?_⟩
      · intro b hb
        rw [set_other (by omega)]
        exact (g5 b (by omega)).trans ((kN.get (by omega) (by simp)).trans (kg b hb))
      · rw [take_snoc hx]
        refine b5.kept (L := [h.size + 3]) ⟨by simp, fun c hc hn => set_other (fun e => hn (by simp [e]))⟩ ?_ (fun cs t _ q => q)
        intro c hc
        simp at hc
        omega
    · have hii : i = fl.length := by omega
      subst hii
      rw [List.take_length] at bu
      simp (disch := first | omega | (simp only [newRow_size, Array.size_setIfInBounds, Array.size_push]; done) | (simp only [newRow_size, Array.size_setIfInBounds, Array.size_push]; omega)) [l47_8, r47_5, n0, hln, eqT, eqF, neT, neF, ltT, ltF, leT, leF, nltT, nltF, nleT, nleF, nneT, nneF, List.getElem?_cons_zero, List.getElem?_cons_succ, r47_9, n3, n1, srcOf]
      have kN := rowKept g' [.int .i64 (last + 1), .int .i64 p.1.fr, .int .i64 p.1.to, .string p.1.b, .bool p.2] 5 []
      have bN := bu.kept kN (by simp) (fun cs t _ q => q)
      refine Ans.next (bN.push (x := (last + 1, p)) (bytes := 48) pcl_any rfl (by omega) (by simp; omega) rfl) ?_
      rintro u' h5 ⟨b5, z5, g5, _⟩
      have ou' := b5.sl.one
      have vu' := b5.sl.vc
      have su' := SlR.same b5.sl
      simp only [oneCell] at ou'
      simp only [vcells] at vu'
      simp only [newRow_size] at z5
      have q3 := (g5 (h.size + 3) (by omega)).trans ((kN.get n3s (by simp)).trans n3)
      have q2 := (g5 (h.size + 2) (by omega)).trans ((kN.get (by omega) (by simp)).trans n2)
      simp (disch := first | omega | (simp only [newRow_size, Array.size_setIfInBounds, Array.size_push]; done) | (simp only [newRow_size, Array.size_setIfInBounds, Array.size_push]; omega)) [q3, ou', vu', eqT, eqF, neT, neF, ltT, ltF, leT, leF, nltT, nltF, nleT, nleF, nneT, nneF, List.getElem?_cons_zero, List.getElem?_cons_succ, d47_10, dk_go, chks_nil, chks_cons, chkA_nil, chkA_cons, chk1_no, chk1_yes, chkV_some, hAt_eq, hOf_some, hOf_none, sameV, sameL, q2, sameCell]
      subst hQ
      rw [hm]
      have k6 : Kept h5 ((h5.setIfInBounds (h.size + 3) (.cells [u', .int .i64 (last + 1), .bool false] 0 true [])).setIfInBounds (h.size + 2) (.cells [u', .int .i64 (last + 1), .bool false] 0 true [])) [h.size + 3, h.size + 2] := ⟨by simp, fun c hc hn => by
        simp at hn
        rw [set_other (by omega), set_other (by omega)]⟩
      have b6 := b5.kept k6 (by intro c hc; simp at hc; omega) (fun cs t _ q => q)
      refine Ans.of ⟨_, rfl, ⟨u', rfl, SlF.imp b6.sl (fun c _ hc => hok c (by have : h.size + 4 ≤ c := hc; omega)) (fun _ _ _ e => e)⟩, ⟨by have := k6.1; omega, fun c hc _ => ?_⟩⟩
      exact (k6.get (by omega) (by simp; omega)).trans ((g5 c (by omega)).trans ((kN.get (by omega) (by simp)).trans ((kg c (by omega)).trans (kR.get hc (by simp)))))

end Go.Proofs.Ytmenfnapbggglaa

/- The document's line: Send. -/
set_option linter.unusedSimpArgs false
set_option linter.unusedVariables false
namespace Go.Proofs.Ytmenfnapbggglaa
open Go.Ev

def IntC (h : H) (cs : List Value) (n : Int) : Prop := cs = [.int .i64 n]
theorem int_any (h h' : H) (cs : List Value) (x : Int) (q : IntC h cs x) : IntC h' cs x := q
theorem SlI.imp {ok ok' : Nat → Prop} {h h' : H} {v : Value} {xs : List Int} (s : SlR ok 1 IntC h v xs) (h1 : ∀ b, b < h.size → ok b → ok' b) (h3 : ∀ b cs, ok b → cel h b = some cs → cel h' b = some cs) : SlR ok' 1 IntC h' v xs :=
  s.imp h1 (fun _ _ _ q => q) h3

def sendR (nn : Bool) : Flight → Int → List Msg → Flight × Int × List Int
  | fl, last, [] => (fl, last, [])
  | fl, last, m :: r => ((sendR nn (putR nn fl last (m, false)).1 (putR nn fl last (m, false)).2.1 r).1, (sendR nn (putR nn fl last (m, false)).1 (putR nn fl last (m, false)).2.1 r).2.1, (putR nn fl last (m, false)).2.2 :: (sendR nn (putR nn fl last (m, false)).1 (putR nn fl last (m, false)).2.1 r).2.2)

theorem sendR_snoc (nn : Bool) (m : Msg) : ∀ (l : List Msg) (fl : Flight) (last : Int), sendR nn fl last (l ++ [m]) = ((putR nn (sendR nn fl last l).1 (sendR nn fl last l).2.1 (m, false)).1, (putR nn (sendR nn fl last l).1 (sendR nn fl last l).2.1 (m, false)).2.1, (sendR nn fl last l).2.2 ++ [(putR nn (sendR nn fl last l).1 (sendR nn fl last l).2.1 (m, false)).2.2])
  | [], fl, last => by simp [sendR]
  | a :: l, fl, last => by
    simp only [List.cons_append, sendR]
    rw [sendR_snoc nn m l]

theorem putR_len (nn : Bool) (fl : Flight) (last : Int) (p : Parcel) (h : fl.length ≤ 256) : (putR nn fl last p).1.length ≤ 256 := by
  unfold putR
  split
  · exact h
  · rename_i hc
    have : ¬ 256 ≤ fl.length := fun e => hc (.inr e)
    simp; omega
theorem putR_last (nn : Bool) (fl : Flight) (last : Int) (p : Parcel) : last ≤ (putR nn fl last p).2.1 ∧ (putR nn fl last p).2.1 ≤ last + 1 := by
  unfold putR
  split <;> simp <;> omega
theorem sendR_len (nn : Bool) : ∀ (l : List Msg) (fl : Flight) (last : Int), fl.length ≤ 256 → (sendR nn fl last l).1.length ≤ 256
  | [], fl, last, h => h
  | a :: l, fl, last, h => by
    simp only [sendR]
    exact sendR_len nn l _ _ (putR_len nn fl last _ h)
theorem sendR_last (nn : Bool) : ∀ (l : List Msg) (fl : Flight) (last : Int), last ≤ (sendR nn fl last l).2.1 ∧ (sendR nn fl last l).2.1 ≤ last + l.length
  | [], fl, last => by simp [sendR]
  | a :: l, fl, last => by
    simp only [sendR]
    have h1 := sendR_last nn l (putR nn fl last (a, false)).1 (putR nn fl last (a, false)).2.1
    have h2 := putR_last nn fl last (a, false)
    simp
    omega
theorem sendR_ns (nn : Bool) : ∀ (l : List Msg) (fl : Flight) (last : Int), (sendR nn fl last l).2.2.length = l.length
  | [], fl, last => rfl
  | a :: l, fl, last => by
    simp only [sendR, List.length_cons]
    rw [sendR_ns nn l]

def SendPost (ok : Nat → Prop) (h : H) (nn : Bool) (r : Flight × Int × List Int) (v : Value) (h' : H) : Prop := ∃ cs u, v = .tuple ⟨[.agg ⟨cs⟩, u]⟩ ∧ RefL ok h' cs r.1 r.2.1 nn ∧ SlR (fun c => h.size ≤ c) 1 IntC h' u r.2.2 ∧ Kept h h' []

set_option maxHeartbeats 1000000 in
theorem refSend_spec {F : Nat} (hF : 2000 ≤ F) {ok ok2 : Nat → Prop} {h : H} {cs : List Value} {fl : Flight} {last : Int} {nn : Bool} (s : RefL ok h cs fl last nn) (hok : ∀ c, h.size ≤ c → ok c) (hl : fl.length ≤ 256) (hlast : 0 ≤ last ∧ last ≤ 100000000) {w : Value} {ms : List Msg} (sm : SlR ok2 3 MsgC h w ms) (hms : ms.length ≤ 300) :
    Ans (cf F 36 [.agg ⟨cs⟩, w] h) (SendPost ok h nn (sendR nn fl last ms)) := by
  generalize hQ : SendPost ok h nn (sendR nn fl last ms) = Q
  obtain ⟨F, rfl⟩ : ∃ G, F = G + 1 := ⟨F - 1, by omega⟩
  obtain ⟨v, hcs, sv⟩ := id s
  have ov := sv.one
  simp only [oneCell] at ov
  have hlm := sm.len
  rw [cf_step (a := a36) rfl rfl (by simp [a36]), hcs]
  simp (disch := first | omega | (simp only [newRow_size, Array.size_setIfInBounds, Array.size_push]; done) | (simp only [newRow_size, Array.size_setIfInBounds, Array.size_push]; omega)) [a36, r36_0, ov, r36_1, r36_2]
  generalize hz : [Value.slice none 0 0, .int .i64 0, .bool false] = zz
  rw [← hcs]
  have kR : Kept h (Ev.newRow (Ev.newRow h cs 0 []) zz 0 []) [] := (rowKept _ _ _ _).trans (rowKept _ _ _ _)
  have m0 : hget (Ev.newRow (Ev.newRow h cs 0 []) zz 0 []) h.size = some (.cells cs 0 true []) := by simp (disch := first | omega | (simp only [newRow_size, Array.size_setIfInBounds, Array.size_push]; done) | (simp only [newRow_size, Array.size_setIfInBounds, Array.size_push]; omega)) []
  have m1 : hget (Ev.newRow (Ev.newRow h cs 0 []) zz 0 []) (h.size + 1) = some (.cells zz 0 true []) := by simp (disch := first | omega | (simp only [newRow_size, Array.size_setIfInBounds, Array.size_push]; done) | (simp only [newRow_size, Array.size_setIfInBounds, Array.size_push]; omega)) []
  have zR : (Ev.newRow (Ev.newRow h cs 0 []) zz 0 []).size = h.size + 2 := by simp
  generalize Ev.newRow (Ev.newRow h cs 0 []) zz 0 [] = g at kR m0 m1 zR ⊢
  subst hz
  have s0 : RefL (fun c => ok c ∧ c < h.size) g cs fl last nn := s.imp (fun c hc q => ⟨q, hc⟩) (keep_of kR.c (by simp))
  refine loop_rule (fun m e g' => ∃ (i : Nat) (u : Value) (P : Nat → Prop) (cs' : List Value), m = ms.length - i ∧ i ≤ ms.length ∧ e = [(1, w), (2, .pointer (some ⟨h.size, 0, none⟩)), (4, .pointer (some ⟨h.size + 1, 0, none⟩)), (6, u), (7, .int .i64 i)] ∧
    Kept h g' [] ∧ hget g' h.size = some (.cells cs' 0 true []) ∧ hget g' (h.size + 1) = some (.cells [.slice none 0 0, .int .i64 0, .bool false] 0 true []) ∧ RefL P g' cs' (sendR nn fl last (ms.take i)).1 (sendR nn fl last (ms.take i)).2.1 nn ∧ (∀ c, P c → ok c ∧ c < g'.size) ∧ ¬ P h.size ∧ ¬ P (h.size + 1) ∧
    Bld (fun c => h.size + 2 ≤ c) 1 IntC g' u (sendR nn fl last (ms.take i)).2.2) ?_ _ ms.length _ _ (by omega) ⟨0, .slice none 0 0, _, cs, by omega, by omega, rfl, kR, m0, m1, s0, fun c q => ⟨q.1, by omega⟩, by simp, by simp, Bld.nil _ _ _ _⟩
  clear s0 m0 m1 kR
  rintro m e g' again ⟨i, u, P, cs', rfl, hi, rfl, kg, m0, m1, si, hP, hP0, hP1, bu⟩ ih
  have y0 := kg.1
  have z1 := lt_of_get m1
  have hw1 : IntKind.i64.wrap ((i : Int) + 1) = ((i + 1 : Nat) : Int) := by rw [wrap_id (by omega) (by omega)]; rfl
  have hlen := sendR_len nn (ms.take i) fl last hl
  have hlst := sendR_last nn (ms.take i) fl last
  have hns := sendR_ns nn (ms.take i) fl last
  rw [List.length_take] at hlst hns
  obtain ⟨vi, hci, svi⟩ := id si
  have ovi := svi.one
  simp only [oneCell] at ovi
  by_cases hlt : i < ms.length
  · obtain ⟨x, hx⟩ : ∃ x, ms[i]? = some x := ⟨_, List.getElem?_eq_getElem hlt⟩
    have sm' := SlM.imp sm (ok' := ok2) (fun _ _ q => q) (keep_of kg.c (by simp))
    obtain ⟨b, o, c, csx, es, lv, an, rfl, hk, hg, hle, hmc⟩ := sm'.at' hx
    have hmc : (csx.drop (o + i * 3)).take 3 = x.cells := hmc
    have hgs := lt_of_get hg
    have hmc' := hmc
    simp only [Msg.cells] at hmc'
    have m0' := m0
    rw [hci] at m0'
    simp (disch := first | omega | (simp only [newRow_size, Array.size_setIfInBounds, Array.size_push]; done) | (simp only [newRow_size, Array.size_setIfInBounds, Array.size_push]; omega)) [l36_8, r36_3, hlm, eqT, eqF, neT, neF, ltT, ltF, leT, leF, nltT, nltF, nleT, nleF, nneT, nneF, List.getElem?_cons_zero, List.getElem?_cons_succ, d36_4, m0', hg, hmc', ovi]
    rw [← hci]
    have kN := rowKept g' [.slice none 0 0, .int .i64 0, .bool false] 0 []
    have hnb : hget (Ev.newRow g' [.slice none 0 0, .int .i64 0, .bool false] 0 []) g'.size = some (.cells [.slice none 0 0, .int .i64 0, .bool false] 0 true []) := by simp
    have zN : (Ev.newRow g' [.slice none 0 0, .int .i64 0, .bool false] 0 []).size = g'.size + 1 := by simp
    generalize Ev.newRow g' [.slice none 0 0, .int .i64 0, .bool false] 0 [] = g1 at kN hnb zN ⊢
    have s1 : RefL (fun c => P c ∨ g1.size ≤ c) g1 cs' (sendR nn fl last (ms.take i)).1 (sendR nn fl last (ms.take i)).2.1 nn := si.imp (fun _ _ q => .inl q) (keep_of kN.c (by simp))
    refine Ans.nextE (refPut_spec (F := F) (by omega) s1 (fun c hc => .inr hc) hlen (by omega) (x, false)) ?_
    rintro u2 g2 ⟨cs2, rfl, s2, k2⟩
    have y2 := k2.1
    obtain ⟨v2, hcs2, sv2⟩ := id s2
    have ov2 := sv2.one
    simp only [oneCell] at ov2
    have hnb2 := (k2.get (by omega) (by simp)).trans hnb
    have m02 := (k2.get (by omega) (by simp)).trans ((kN.get (by omega) (by simp)).trans m0)
    have m12 := (k2.get (by omega) (by simp)).trans ((kN.get (by omega) (by simp)).trans m1)
    rw [hci] at m02
    rw [hcs2]
    simp (disch := first | omega | (simp only [newRow_size, Array.size_setIfInBounds, Array.size_push]; done) | (simp only [newRow_size, Array.size_setIfInBounds, Array.size_push]; omega)) [hnb2, ov2, eqT, eqF, neT, neF, ltT, ltF, leT, leF, nltT, nltF, nleT, nleF, nneT, nneF, List.getElem?_cons_zero, List.getElem?_cons_succ, r36_5, m02, r36_6, srcOf]
    rw [← hcs2]
    have k3 : Kept g2 ((g2.setIfInBounds g'.size (.cells cs2 0 true [])).setIfInBounds h.size (.cells cs2 0 true [])) [g'.size, h.size] := ⟨by simp, fun c hc hn => by
      simp at hn
      rw [set_other (by omega), set_other (by omega)]⟩
    have n0 : hget ((g2.setIfInBounds g'.size (.cells cs2 0 true [])).setIfInBounds h.size (.cells cs2 0 true [])) h.size = some (.cells cs2 0 true []) := by
      have : h.size < g2.size := by omega
      simp [this]
    have z3 : ((g2.setIfInBounds g'.size (.cells cs2 0 true [])).setIfInBounds h.size (.cells cs2 0 true [])).size = g2.size := by simp
    generalize (g2.setIfInBounds g'.size (.cells cs2 0 true [])).setIfInBounds h.size (.cells cs2 0 true []) = g3 at k3 n0 z3 ⊢
    have n1 := (k3.get (by omega) (by simp; omega)).trans m12
    generalize hkv : (putR nn (sendR nn fl last (ms.take i)).1 (sendR nn fl last (ms.take i)).2.1 (x, false)).2.2 = kv
    have kW := rowKept g3 [.int .i64 kv] 1 []
    have kB : Kept g' g3 [h.size] := by
      refine ⟨by omega, fun c hc hn => ?_⟩
      simp at hn
      exact (k3.get (by omega) (by simp; omega)).trans ((k2.get (by omega) (by simp)).trans (kN.get hc (by simp)))
    have bW := (bu.kept kB (by intro c hc; simp at hc; omega) (fun cs t _ q => q)).kept kW (by simp) (fun cs t _ q => q)
    refine Ans.next (bW.push (x := kv) (bytes := 8) int_any rfl (by omega) (by simp; omega) rfl) ?_
    rintro u' g4 ⟨b4, z4, g4', kc4⟩
    simp only [newRow_size] at z4
    have hsn := sendR_snoc nn x (ms.take i) fl last
    rw [← take_snoc hx] at hsn
    simp (disch := first | omega | (simp only [newRow_size, Array.size_setIfInBounds, Array.size_push]; done) | (simp only [newRow_size, Array.size_setIfInBounds, Array.size_push]; omega)) [r36_7, hw1]
    refine ih (ms.length - (i + 1)) _ _ (by omega) ⟨i + 1, u', (fun c => (P c ∨ g1.size ≤ c) ∧ c < g2.size), cs2, rfl, by omega, rfl, ?_, ?_, ?_, ?_, ?_, ?_, ?_, ?_⟩
    · refine ⟨by omega, fun c hc _ => ?_⟩
      exact (g4' c (by omega)).trans ((kW.get (by omega) (by simp)).trans ((kB.get (by omega) (by simp; omega)).trans (kg.get hc (by simp))))
    · exact (g4' _ (by omega)).trans ((kW.get (by omega) (by simp)).trans n0)
    · exact (g4' _ (by omega)).trans ((kW.get (by omega) (by simp)).trans n1)
    · rw [hsn]
      refine (s2.now.imp (fun _ _ q => q) (keep_of k3.c ?_)).imp (fun _ _ q => q) (keep_of (kW.c.trans kc4) (by simp))
      intro c hc
      simp at hc
      rcases hc with rfl | rfl
      · rintro ⟨q | q, _⟩
        · have := (hP _ q).2; omega
        · omega
      · rintro ⟨q | q, _⟩
        · exact hP0 q
        · omega
    · intro c q
      refine ⟨?_, by omega⟩
      rcases q.1 with q | q
      · exact (hP c q).1
      · exact hok c (by omega)
    · rintro ⟨q | q, _⟩
      · exact hP0 q
      · omega
    · rintro ⟨q | q, _⟩
      · exact hP1 q
      · omega
    · rw [hsn, hkv]
      exact b4
  · have hii : i = ms.length := by omega
    subst hii
    rw [List.take_length] at si bu hci
    have m0' := m0
    rw [hci] at m0'
    simp (disch := first | omega | (simp only [newRow_size, Array.size_setIfInBounds, Array.size_push]; done) | (simp only [newRow_size, Array.size_setIfInBounds, Array.size_push]; omega)) [l36_8, r36_3, hlm, eqT, eqF, neT, neF, ltT, ltF, leT, leF, nltT, nltF, nleT, nleF, nneT, nneF, List.getElem?_cons_zero, List.getElem?_cons_succ, r36_9, m0', ovi, m1]
    rw [← hci]
    subst hQ
    have k6 : Kept g' (g'.setIfInBounds (h.size + 1) (.cells cs' 0 true [])) [h.size + 1] := ⟨by simp, fun c hc hn => set_other (fun e => hn (by simp [e]))⟩
    refine Ans.of ⟨cs', u, rfl, si.imp (fun c _ q => (hP c q).1) (keep_of k6.c (by intro c hc; simp at hc; subst hc; exact hP1)), ?_, ?_⟩
    · exact SlI.imp (bu.kept k6 (by intro c hc; simp at hc; omega) (fun cs t _ q => q)).sl (fun c _ q => by have : h.size + 2 ≤ c := q; show h.size ≤ c; omega) (fun _ _ _ e => e)
    · exact ⟨by have := k6.1; omega, fun c hc _ => (k6.get (by omega) (by simp; omega)).trans (kg.get hc (by simp))⟩

end Go.Proofs.Ytmenfnapbggglaa

/- The document's line: Take. -/
set_option linter.unusedSimpArgs false
set_option linter.unusedVariables false
namespace Go.Proofs.Ytmenfnapbggglaa
open Go.Ev

def notN (n : Int) (fl : Flight) : Flight := fl.filter fun q => decide (q.1 ≠ n)
/-- Take. -/
def takeR (n : Int) (fl : Flight) : Flight := match lk n fl 0 with
  | some _ => notN n fl
  | none => fl

def TakePost (ok : Nat → Prop) (h : H) (nn : Bool) (fl : Flight) (last : Int) (m : Msg) (e : Int) (v : Value) (h' : H) : Prop := ∃ cs, v = .tuple ⟨[.agg ⟨cs⟩, .agg ⟨m.cells⟩, .int .i64 e]⟩ ∧ RefL ok h' cs fl last nn ∧ Kept h h' []

theorem sameM (m : Msg) : sameL m.cells m.cells = true := by
  have := ba_self m.b
  simp [Msg.cells, sameL, sameCell, this]

set_option maxHeartbeats 1000000 in
theorem refTake_spec {F : Nat} (hF : 2000 ≤ F) {ok : Nat → Prop} {h : H} {cs : List Value} {fl : Flight} {last : Int} {nn : Bool} (s : RefL ok h cs fl last nn) (hok : ∀ c, h.size ≤ c → ok c) (hl : fl.length ≤ 256) (hnn : nn = true → fl = []) (n : Int) :
    Ans (cf F 37 [.agg ⟨cs⟩, .int .i64 n] h) (TakePost ok h nn (takeR n fl) last (lookM n fl).1 (lookM n fl).2) := by
  generalize hQ : TakePost ok h nn (takeR n fl) last (lookM n fl).1 (lookM n fl).2 = Q
  obtain ⟨F, rfl⟩ : ∃ G, F = G + 1 := ⟨F - 1, by omega⟩
  obtain ⟨v, hcs, sv⟩ := id s
  have ov := sv.one
  simp only [oneCell] at ov
  have hln := sv.len
  have svv := SlR.same sv
  rw [cf_step (a := a37) rfl rfl (by simp [a37]), hcs]
  simp (disch := first | omega | (simp only [newRow_size, Array.size_setIfInBounds, Array.size_push]; done) | (simp only [newRow_size, Array.size_setIfInBounds, Array.size_push]; omega)) [a37, r37_0, ov, r37_1]
  generalize hz : [Value.slice none 0 0, .int .i64 0, .bool false] = zz
  generalize hy : [Value.int .i64 0, .int .i64 0, .string ⟨#[]⟩] = yy
  rw [← hcs]
  have kR : Kept h (Ev.newRow (Ev.newRow (Ev.newRow h cs 0 []) zz 0 []) yy 0 []) [] := ((rowKept _ _ _ _).trans (rowKept _ _ _ _)).trans (rowKept _ _ _ _)
  have m0 : hget (Ev.newRow (Ev.newRow (Ev.newRow h cs 0 []) zz 0 []) yy 0 []) h.size = some (.cells cs 0 true []) := by simp (disch := first | omega | (simp only [newRow_size, Array.size_setIfInBounds, Array.size_push]; done) | (simp only [newRow_size, Array.size_setIfInBounds, Array.size_push]; omega)) []
  have m1 : hget (Ev.newRow (Ev.newRow (Ev.newRow h cs 0 []) zz 0 []) yy 0 []) (h.size + 1) = some (.cells zz 0 true []) := by simp (disch := first | omega | (simp only [newRow_size, Array.size_setIfInBounds, Array.size_push]; done) | (simp only [newRow_size, Array.size_setIfInBounds, Array.size_push]; omega)) []
  have m2 : hget (Ev.newRow (Ev.newRow (Ev.newRow h cs 0 []) zz 0 []) yy 0 []) (h.size + 2) = some (.cells yy 0 true []) := by simp (disch := first | omega | (simp only [newRow_size, Array.size_setIfInBounds, Array.size_push]; done) | (simp only [newRow_size, Array.size_setIfInBounds, Array.size_push]; omega)) []
  have zR : (Ev.newRow (Ev.newRow (Ev.newRow h cs 0 []) zz 0 []) yy 0 []).size = h.size + 3 := by simp
  generalize Ev.newRow (Ev.newRow (Ev.newRow h cs 0 []) zz 0 []) yy 0 [] = g at kR m0 m1 m2 zR ⊢
  subst hz hy
  have sg : RefL (fun c => ok c ∧ c < h.size) g cs fl last nn := s.imp (fun c hc q => ⟨q, hc⟩) (keep_of kR.c (by simp))
  have m0' := m0
  rw [hcs] at m0'
  refine Ans.next (refLook_spec (F := F) (by omega) sg hl n) ?_
  rintro u g1 ⟨rfl, k1⟩
  have y1 := k1.1
  have n0 := (k1.get (by omega) (by simp)).trans m0'
  have n1 := (k1.get (by omega) (by simp)).trans m1
  have n2 := (k1.get (by omega) (by simp)).trans m2
  have sg1 := sg.imp (ok' := fun c => ok c ∧ c < h.size) (fun _ _ q => q) (keep_of k1.c (by simp))
  have kh1 : Kept h g1 [] := kR.trans k1
  generalize hM : (lookM n fl).1 = M
  generalize hE : (lookM n fl).2 = Ee
  rw [hM, hE] at hQ
  have sM := sameM M
  have hMv : M.val = .agg ⟨M.cells⟩ := rfl
  have hMc : M.cells = [.int .i64 M.fr, .int .i64 M.to, .string M.b] := rfl
  rw [hMv, hMc]
  simp (disch := first | omega | (simp only [newRow_size, Array.size_setIfInBounds, Array.size_push]; done) | (simp only [newRow_size, Array.size_setIfInBounds, Array.size_push]; omega)) [eqT, eqF, neT, neF, ltT, ltF, leT, leF, nltT, nltF, nleT, nleF, nneT, nneF, List.getElem?_cons_zero, List.getElem?_cons_succ]
  have kN := rowKept g1 M.cells 0 []
  have hnb : hget (Ev.newRow g1 M.cells 0 []) g1.size = some (.cells M.cells 0 true []) := by simp
  have zN : (Ev.newRow g1 M.cells 0 []).size = g1.size + 1 := by simp
  rw [hMc] at kN hnb zN sM
  generalize Ev.newRow g1 [.int .i64 M.fr, .int .i64 M.to, .string M.b] 0 [] = g2 at kN hnb zN ⊢
  have hnbs := lt_of_get hnb
  have p0 := (kN.get (by omega) (by simp)).trans n0
  have p1 := (kN.get (by omega) (by simp)).trans n1
  have p2 := (kN.get (by omega) (by simp)).trans n2
  have sg2 := sg1.imp (ok' := fun c => ok c ∧ c < h.size) (fun _ _ q => q) (keep_of kN.c (by simp))
  have kh2 : Kept h g2 [] := kh1.trans kN
  have fin : ∀ (g' : H) (r r2 : List Value), (∀ b, b < h.size → hget g' b = hget h b) → h.size + 3 ≤ g'.size → Kept h ((g'.setIfInBounds (h.size + 1) (.cells r 0 true [])).setIfInBounds (h.size + 2) (.cells r2 0 true [])) [] := by
    intro g2 r r2 hg hz
    exact ⟨by simp; omega, fun c hc _ => by rw [set_other (by omega), set_other (by omega)]; exact hg c hc⟩
  cases hlk : lk n fl 0 with
  | none =>
    have hE' : Ee = 160 := by rw [← hE]; simp [lookM, hlk]
    subst hE'
    have ht : takeR n fl = fl := by unfold takeR; rw [hlk]
    simp (disch := first | omega | (simp only [newRow_size, Array.size_setIfInBounds, Array.size_push]; done) | (simp only [newRow_size, Array.size_setIfInBounds, Array.size_push]; omega)) [r37_2, eqT, eqF, neT, neF, ltT, ltF, leT, leF, nltT, nltF, nleT, nleF, nneT, nneF, List.getElem?_cons_zero, List.getElem?_cons_succ, d37_3, dk_go, chks_nil, chks_cons, chkA_nil, chkA_cons, chk1_no, chk1_yes, chkV_some, hAt_eq, hOf_some, hOf_none, sameV, p0, hnb, p1, p2, ov, sM]
    subst hQ
    rw [ht]
    have k6 : Kept g2 ((g2.setIfInBounds (h.size + 1) (.cells [v, .int .i64 last, .bool nn] 0 true [])).setIfInBounds (h.size + 2) (.cells [.int .i64 M.fr, .int .i64 M.to, .string M.b] 0 true [])) [h.size + 1, h.size + 2] := ⟨by simp, fun c hc hn => by
      simp at hn
      rw [set_other (by omega), set_other (by omega)]⟩
    rw [← hcs]
    rw [← hcs] at k6
    exact Ans.of ⟨cs, rfl, sg2.imp (fun c _ q => q.1) (keep_of k6.c (by intro c hc; simp at hc; omega)), ⟨by have := k6.1; omega, fun c hc _ => (k6.get (by omega) (by simp; omega)).trans (kh2.get hc (by simp))⟩⟩
  | some q =>
    have hE' : Ee = 0 := by rw [← hE]; simp [lookM, hlk]
    subst hE'
    have hnf : nn = false := by
      cases nn with
      | false => rfl
      | true => rw [hnn rfl] at hlk; simp [lk] at hlk
    subst hnf
    have ht : takeR n fl = notN n fl := by unfold takeR; rw [hlk]
    simp (disch := first | omega | (simp only [newRow_size, Array.size_setIfInBounds, Array.size_push]; done) | (simp only [newRow_size, Array.size_setIfInBounds, Array.size_push]; omega)) [r37_2, eqT, eqF, neT, neF, ltT, ltF, leT, leF, nltT, nltF, nleT, nleF, nneT, nneF, List.getElem?_cons_zero, List.getElem?_cons_succ, r37_4, p0, r37_5]
    refine loop_rule (fun m e g' => ∃ (i : Nat) (u : Value), m = fl.length - i ∧ i ≤ fl.length ∧ e = [(1, .int .i64 n), (2, .pointer (some ⟨h.size, 0, none⟩)), (4, .pointer (some ⟨h.size + 1, 0, none⟩)), (5, .pointer (some ⟨h.size + 2, 0, none⟩)), (7, .pointer (some ⟨g1.size, 0, none⟩)), (9, .pointer (some ⟨g1.size + 1, 0, none⟩)), (10, .int .i64 i)] ∧
      (∀ b, b < g1.size + 1 → hget g' b = hget g2 b) ∧ hget g' (g1.size + 1) = some (.cells [u, .int .i64 last, .bool false] 0 true []) ∧ Bld (fun c => g1.size + 2 ≤ c) 5 PclC g' u (notN n (fl.take i)) ∧ (notN n (fl.take i)).length ≤ i) ?_ _ fl.length _ _ (by omega) ⟨0, .slice none 0 0, by omega, by omega, by rw [zN]; rfl, fun b hb => by simp (disch := first | omega | (simp only [newRow_size, Array.size_setIfInBounds, Array.size_push]; done) | (simp only [newRow_size, Array.size_setIfInBounds, Array.size_push]; omega)) [], by rw [← zN]; simp, Bld.nil _ _ _ _, by simp [notN]⟩
    rintro m e g' again ⟨i, u, rfl, hi, rfl, kg, n3, bu, hle9⟩ ih
    have n3s := lt_of_get n3
    have q0 := (kg h.size (by omega)).trans p0
    have q1 := (kg (h.size + 1) (by omega)).trans p1
    have q2 := (kg (h.size + 2) (by omega)).trans p2
    have q7 := (kg g1.size (by omega)).trans hnb
    obtain ⟨v9, e9, sv9⟩ := id sg2
    rw [hcs] at e9
    injection e9 with e9
    subst e9
    have sg' : SlR (fun c => ok c ∧ c < h.size) 5 PclC g' v fl := SlF.imp sv9 (fun c hc q => q) (fun b zs hb hz => (cel_congr (kg b (by omega))).trans hz)
    have hw1 : IntKind.i64.wrap ((i : Int) + 1) = ((i + 1 : Nat) : Int) := by rw [wrap_id (by omega) (by omega)]; rfl
    have ou := bu.sl.one
    have vu := bu.sl.vc
    simp only [oneCell] at ou
    simp only [vcells] at vu
    by_cases hlt : i < fl.length
    · obtain ⟨x, hx⟩ : ∃ x, fl[i]? = some x := ⟨_, List.getElem?_eq_getElem hlt⟩
      obtain ⟨b, o, c, csx, es, lv, an, rfl, hk, hg, hle, hpc⟩ := sg'.at' hx
      obtain ⟨e5, e1, e3, e4⟩ := pc_at hpc hle
      have hgs := lt_of_get hg
      by_cases hxn : x.1 = n
      · simp (disch := first | omega | (simp only [newRow_size, Array.size_setIfInBounds, Array.size_push]; done) | (simp only [newRow_size, Array.size_setIfInBounds, Array.size_push]; omega)) [l37_10, r37_6, q0, hln, eqT, eqF, neT, neF, ltT, ltF, leT, leF, nltT, nltF, nleT, nleF, nneT, nneF, List.getElem?_cons_zero, List.getElem?_cons_succ, r37_7, hg, e1, hxn, r37_9, hw1]
        refine ih (fl.length - (i + 1)) _ _ (by omega) ⟨i + 1, u, rfl, by omega, rfl, kg, n3, ?_, ?_⟩
        · rw [take_snoc hx]
          simpa [notN, hxn] using bu
        · exact Nat.le_trans (List.length_filter_le _ _) (by rw [List.length_take]; omega)
      · simp (disch := first | omega | (simp only [newRow_size, Array.size_setIfInBounds, Array.size_push]; done) | (simp only [newRow_size, Array.size_setIfInBounds, Array.size_push]; omega)) [l37_10, r37_6, q0, hln, eqT, eqF, neT, neF, ltT, ltF, leT, leF, nltT, nltF, nleT, nleF, nneT, nneF, List.getElem?_cons_zero, List.getElem?_cons_succ, r37_7, hg, e1, hxn, d37_8, n3, e5, srcOf]
        have kN' := rowKept g' [.int .i64 x.1, .int .i64 x.2.1.fr, .int .i64 x.2.1.to, .string x.2.1.b, .bool x.2.2] 5 []
        have bN := bu.kept kN' (by simp) (fun cs t _ q => q)
        refine Ans.nextE (bN.push (x := x) (bytes := 48) pcl_any rfl (by omega) (by simp; omega) rfl) ?_
        rintro u' h5 ⟨b5, z5, g5, _⟩
        have ou' := b5.sl.one
        have vu' := b5.sl.vc
        simp only [oneCell] at ou'
        simp only [vcells] at vu'
        simp only [newRow_size] at z5
        have q3 := (g5 (g1.size + 1) (by omega)).trans ((kN'.get n3s (by simp)).trans n3)
        simp (disch := first | omega | (simp only [newRow_size, Array.size_setIfInBounds, Array.size_push]; done) | (simp only [newRow_size, Array.size_setIfInBounds, Array.size_push]; omega)) [q3, ou', vu', eqT, eqF, neT, neF, ltT, ltF, leT, leF, nltT, nltF, nleT, nleF, nneT, nneF, List.getElem?_cons_zero, List.getElem?_cons_succ, r37_9, hw1]
        refine ih (fl.length - (i + 1)) _ _ (by omega) ⟨i + 1, u', rfl, by omega, rfl, ?_, by simp (disch := first | omega | (simp only [newRow_size, Array.size_setIfInBounds, Array.size_push]; done) | (simp only [newRow_size, Array.size_setIfInBounds, Array.size_push]; omega)) [], ?_, ?_⟩
        · intro b hb
          rw [set_other (by omega)]
          exact (g5 b (by omega)).trans ((kN'.get (by omega) (by simp)).trans (kg b hb))
        · rw [take_snoc hx]
          have : notN n (fl.take i ++ [x]) = notN n (fl.take i) ++ [x] := by simp [notN, hxn]
          rw [this]
          refine b5.kept (L := [g1.size + 1]) ⟨by simp, fun c hc hn => set_other (fun e => hn (by simp [e]))⟩ ?_ (fun cs t _ q => q)
          intro c hc
          simp at hc
          omega
        · exact Nat.le_trans (List.length_filter_le _ _) (by rw [List.length_take]; omega)
    · have hii : i = fl.length := by omega
      subst hii
      rw [List.take_length] at bu
      have su := SlR.same bu.sl
      simp (disch := first | omega | (simp only [newRow_size, Array.size_setIfInBounds, Array.size_push]; done) | (simp only [newRow_size, Array.size_setIfInBounds, Array.size_push]; omega)) [l37_10, r37_6, q0, hln, eqT, eqF, neT, neF, ltT, ltF, leT, leF, nltT, nltF, nleT, nleF, nneT, nneF, List.getElem?_cons_zero, List.getElem?_cons_succ, d37_11, n3, dk_go, chks_nil, chks_cons, chkA_nil, chkA_cons, chk1_no, chk1_yes, chkV_some, hAt_eq, hOf_some, hOf_none, sameV, q7, q1, q2, ou, vu, sM]
      subst hQ
      rw [ht]
      have k6 : Kept g' ((g'.setIfInBounds (h.size + 1) (.cells [u, .int .i64 last, .bool false] 0 true [])).setIfInBounds (h.size + 2) (.cells [.int .i64 M.fr, .int .i64 M.to, .string M.b] 0 true [])) [h.size + 1, h.size + 2] := ⟨by simp, fun c hc hn => by
        simp at hn
        rw [set_other (by omega), set_other (by omega)]⟩
      have b6 := bu.kept k6 (by intro c hc; simp at hc; omega) (fun cs t _ q => q)
      exact Ans.of ⟨_, rfl, ⟨u, rfl, SlF.imp b6.sl (fun c _ hc => hok c (by have : g1.size + 2 ≤ c := hc; omega)) (fun _ _ _ e => e)⟩, ⟨by have := k6.1; omega, fun c hc _ => (k6.get (by omega) (by simp; omega)).trans ((kg c (by omega)).trans (kh2.get hc (by simp)))⟩⟩

end Go.Proofs.Ytmenfnapbggglaa

/- The document's line: Double, Numbers, New; ints. -/
set_option linter.unusedSimpArgs false
set_option linter.unusedVariables false
namespace Go.Proofs.Ytmenfnapbggglaa
open Go.Ev

theorem refNew_spec {F : Nat} (hF : 1 ≤ F) (h : H) : Ans (cf F 24 [] h) fun u h' => u = .agg ⟨[.slice none 0 0, .int .i64 0, .bool false]⟩ ∧ Kept h h' [] := by
  obtain ⟨F, rfl⟩ : ∃ G, F = G + 1 := ⟨F - 1, by omega⟩
  rw [cf_step (a := a24) rfl rfl (by simp [a24])]
  simp (disch := first | omega | (simp only [newRow_size, Array.size_setIfInBounds, Array.size_push]; done) | (simp only [newRow_size, Array.size_setIfInBounds, Array.size_push]; omega)) [a24, r24_0, r24_1]
  exact Ans.of ⟨rfl, rowKept _ _ _ _⟩

/-- Double. -/
def doubleR (nn : Bool) (n : Int) (fl : Flight) (last : Int) : Flight × Int × Int × Int := match lk n fl 0 with
  | none => (fl, last, 0, 160)
  | some (_, p) => if (putR nn fl last p).2.2 < 0 then (fl, last, 0, 46) else ((putR nn fl last p).1, (putR nn fl last p).2.1, (putR nn fl last p).2.2, 0)

def DblPost (ok : Nat → Prop) (h : H) (nn : Bool) (r : Flight × Int × Int × Int) (v : Value) (h' : H) : Prop := ∃ cs, v = .tuple ⟨[.agg ⟨cs⟩, .int .i64 r.2.2.1, .int .i64 r.2.2.2]⟩ ∧ RefL ok h' cs r.1 r.2.1 nn ∧ Kept h h' []

set_option maxHeartbeats 1000000 in
theorem refDouble_spec {F : Nat} (hF : 2000 ≤ F) {ok : Nat → Prop} {h : H} {cs : List Value} {fl : Flight} {last : Int} {nn : Bool} (s : RefL ok h cs fl last nn) (hok : ∀ c, h.size ≤ c → ok c) (hl : fl.length ≤ 256) (hlast : 0 ≤ last ∧ last ≤ 1000000000) (n : Int) :
    Ans (cf F 38 [.agg ⟨cs⟩, .int .i64 n] h) (DblPost ok h nn (doubleR nn n fl last)) := by
  generalize hQ : DblPost ok h nn (doubleR nn n fl last) = Q
  obtain ⟨F, rfl⟩ : ∃ G, F = G + 1 := ⟨F - 1, by omega⟩
  obtain ⟨v, hcs, sv⟩ := id s
  have ov := sv.one
  simp only [oneCell] at ov
  rw [cf_step (a := a38) rfl rfl (by simp [a38]), hcs]
  simp (disch := first | omega | (simp only [newRow_size, Array.size_setIfInBounds, Array.size_push]; done) | (simp only [newRow_size, Array.size_setIfInBounds, Array.size_push]; omega)) [a38, r38_0, ov, r38_1]
  generalize hz : [Value.slice none 0 0, .int .i64 0, .bool false] = zz
  rw [← hcs]
  have kR : Kept h (Ev.newRow (Ev.newRow h cs 0 []) zz 0 []) [] := (rowKept _ _ _ _).trans (rowKept _ _ _ _)
  have m0 : hget (Ev.newRow (Ev.newRow h cs 0 []) zz 0 []) h.size = some (.cells cs 0 true []) := by simp (disch := first | omega | (simp only [newRow_size, Array.size_setIfInBounds, Array.size_push]; done) | (simp only [newRow_size, Array.size_setIfInBounds, Array.size_push]; omega)) []
  have m1 : hget (Ev.newRow (Ev.newRow h cs 0 []) zz 0 []) (h.size + 1) = some (.cells zz 0 true []) := by simp (disch := first | omega | (simp only [newRow_size, Array.size_setIfInBounds, Array.size_push]; done) | (simp only [newRow_size, Array.size_setIfInBounds, Array.size_push]; omega)) []
  have zR : (Ev.newRow (Ev.newRow h cs 0 []) zz 0 []).size = h.size + 2 := by simp
  generalize Ev.newRow (Ev.newRow h cs 0 []) zz 0 [] = g at kR m0 m1 zR ⊢
  subst hz
  have sg : RefL (fun c => ok c ∧ c < h.size) g cs fl last nn := s.imp (fun c hc q => ⟨q, hc⟩) (keep_of kR.c (by simp))
  refine Ans.next (find_spec (F := F) (by omega) sg hl n) ?_
  rintro u g1 ⟨rfl, k1⟩
  have y1 := k1.1
  have n0 := (k1.get (by omega) (by simp)).trans m0
  have n1 := (k1.get (by omega) (by simp)).trans m1
  have kh1 : Kept h g1 [] := kR.trans k1
  have sg1 := sg.imp (ok' := fun c => ok c ∧ c < h.size) (fun _ _ q => q) (keep_of k1.c (by simp))
  have fin : ∀ (g' : H) (cs' : List Value) (r : Flight × Int × Int × Int) (ok' : Nat → Prop), RefL ok' g' cs' r.1 r.2.1 nn → (∀ c, ok' c → ok c ∧ c ≠ h.size + 1) → Kept h g' [] → h.size + 2 ≤ g'.size → doubleR nn n fl last = r →
      Ans (some (Value.tuple ⟨[.agg ⟨cs'⟩, .int .i64 r.2.2.1, .int .i64 r.2.2.2]⟩, g'.setIfInBounds (h.size + 1) (.cells cs' 0 true []))) Q := by
    intro g' cs' r ok' s' hok' k' hz e
    subst hQ
    rw [e]
    have k6 : Kept g' (g'.setIfInBounds (h.size + 1) (.cells cs' 0 true [])) [h.size + 1] := ⟨by simp, fun c hc hn => set_other (fun e => hn (by simp [e]))⟩
    exact Ans.of ⟨cs', rfl, s'.imp (fun c _ q => (hok' c q).1) (keep_of k6.c (by intro c hc; simp at hc; subst hc; exact fun q => (hok' _ q).2 rfl)), ⟨by have := k6.1; have := k'.1; omega, fun c hc _ => (k6.get (by have := k'.1; omega) (by simp; omega)).trans (k'.get hc (by simp))⟩⟩
  cases hlk : lk n fl 0 with
  | none =>
    have hd : doubleR nn n fl last = (fl, last, 0, 160) := by unfold doubleR; rw [hlk]
    have n0' := n0
    rw [hcs] at n0'
    simp (disch := first | omega | (simp only [newRow_size, Array.size_setIfInBounds, Array.size_push]; done) | (simp only [newRow_size, Array.size_setIfInBounds, Array.size_push]; omega)) [fd_none hlk, r38_2, eqT, eqF, neT, neF, ltT, ltF, leT, leF, nltT, nltF, nleT, nleF, nneT, nneF, List.getElem?_cons_zero, List.getElem?_cons_succ, r38_3, n0', n1, ov]
    rw [← hcs]
    exact fin g1 cs (fl, last, 0, 160) _ sg1 (fun c q => ⟨q.1, by omega⟩) kh1 (by omega) hd
  | some q =>
    obtain ⟨i, p⟩ := q
    obtain ⟨_, hp⟩ := lk_get hlk
    rw [Nat.sub_zero] at hp
    have hil := (List.getElem?_eq_some_iff.1 hp).1
    obtain ⟨v1, e1, sv1⟩ := id sg1
    rw [hcs] at e1
    injection e1 with e1
    subst e1
    obtain ⟨b, o, c, csx, es, lv, an, rfl, hk, hg, hle, hpc⟩ := sv1.at' hp
    obtain ⟨e5, e1, e3, e4⟩ := pc_at hpc hle
    have hgs := lt_of_get hg
    have n0' := n0
    rw [hcs] at n0'
    simp (disch := first | omega | (simp only [newRow_size, Array.size_setIfInBounds, Array.size_push]; done) | (simp only [newRow_size, Array.size_setIfInBounds, Array.size_push]; omega)) [fd_some hlk, r38_2, eqT, eqF, neT, neF, ltT, ltF, leT, leF, nltT, nltF, nleT, nleF, nneT, nneF, List.getElem?_cons_zero, List.getElem?_cons_succ, d38_4, n0', hg, e3, e4]
    rw [← hcs]
    have kN := rowKept g1 [.slice none 0 0, .int .i64 0, .bool false] 0 []
    have hnb : hget (Ev.newRow g1 [.slice none 0 0, .int .i64 0, .bool false] 0 []) g1.size = some (.cells [.slice none 0 0, .int .i64 0, .bool false] 0 true []) := by simp
    have zN : (Ev.newRow g1 [.slice none 0 0, .int .i64 0, .bool false] 0 []).size = g1.size + 1 := by simp
    generalize Ev.newRow g1 [.slice none 0 0, .int .i64 0, .bool false] 0 [] = g2 at kN hnb zN ⊢
    have s2 : RefL (fun c => (ok c ∧ c < h.size) ∨ g2.size ≤ c) g2 cs fl last nn := sg1.imp (fun _ _ q => .inl q) (keep_of kN.c (by simp))
    refine Ans.nextE (refPut_spec (F := F) (by omega) s2 (fun c hc => .inr hc) hl hlast p) ?_
    rintro u2 g3 ⟨cs3, rfl, s3, k3⟩
    have y3 := k3.1
    obtain ⟨v3, hcs3, sv3⟩ := id s3
    have ov3 := sv3.one
    simp only [oneCell] at ov3
    have hnb3 := (k3.get (by omega) (by simp)).trans hnb
    have q0 := (k3.get (by omega) (by simp)).trans ((kN.get (by omega) (by simp)).trans n0)
    have q1 := (k3.get (by omega) (by simp)).trans ((kN.get (by omega) (by simp)).trans n1)
    rw [hcs] at q0
    rw [hcs3]
    simp (disch := first | omega | (simp only [newRow_size, Array.size_setIfInBounds, Array.size_push]; done) | (simp only [newRow_size, Array.size_setIfInBounds, Array.size_push]; omega)) [hnb3, ov3, eqT, eqF, neT, neF, ltT, ltF, leT, leF, nltT, nltF, nleT, nleF, nneT, nneF, List.getElem?_cons_zero, List.getElem?_cons_succ]
    rw [← hcs3]
    have k4 : Kept g3 (g3.setIfInBounds g1.size (.cells cs3 0 true [])) [g1.size] := ⟨by simp, fun c hc hn => set_other (fun e => hn (by simp [e]))⟩
    have hnb4 : hget (g3.setIfInBounds g1.size (.cells cs3 0 true [])) g1.size = some (.cells cs3 0 true []) := by
      have : g1.size < g3.size := by omega
      simp [this]
    have z4 : (g3.setIfInBounds g1.size (.cells cs3 0 true [])).size = g3.size := by simp
    generalize g3.setIfInBounds g1.size (.cells cs3 0 true []) = g4 at k4 hnb4 z4 ⊢
    have hnb4s := lt_of_get hnb4
    have t0 := (k4.get (by omega) (by simp; omega)).trans q0
    have t1 := (k4.get (by omega) (by simp; omega)).trans q1
    have kh4 : Kept h g4 [] := ⟨by have := kh1.1; omega, fun c hc _ => (k4.get (by omega) (by simp; omega)).trans ((k3.get (by omega) (by simp)).trans ((kN.get (by omega) (by simp)).trans (kh1.get hc (by simp))))⟩
    have s4 := s3.imp (ok' := fun c => (ok c ∧ c < h.size) ∨ g2.size ≤ c) (fun _ _ q => q) (keep_of k4.c (by intro c hc; simp at hc; omega))
    have hok4 : ∀ c, ((ok c ∧ c < h.size) ∨ g2.size ≤ c) → ok c ∧ c ≠ h.size + 1 := by
      intro c q
      rcases q with q | q
      · exact ⟨q.1, by omega⟩
      · exact ⟨hok c (by omega), by omega⟩
    by_cases hneg : (putR nn fl last p).2.2 < 0
    · have hd : doubleR nn n fl last = (fl, last, 0, 46) := by unfold doubleR; rw [hlk]; simp [hneg]
      simp (disch := first | omega | (simp only [newRow_size, Array.size_setIfInBounds, Array.size_push]; done) | (simp only [newRow_size, Array.size_setIfInBounds, Array.size_push]; omega)) [r38_5, hneg, eqT, eqF, neT, neF, ltT, ltF, leT, leF, nltT, nltF, nleT, nleF, nneT, nneF, List.getElem?_cons_zero, List.getElem?_cons_succ, r38_6, t0, t1]
      rw [← hcs]
      have sA := (sg1.imp (ok' := fun c => ok c ∧ c < h.size) (fun _ _ q => q) (keep_of kN.c (by simp))).imp (ok' := fun c => ok c ∧ c < h.size) (fun _ _ q => q) (keep_of k3.c (by simp))
      have sB := sA.imp (ok' := fun c => ok c ∧ c < h.size) (fun _ _ q => q) (keep_of k4.c (by intro c hc; simp at hc; omega))
      exact fin g4 cs (fl, last, 0, 46) _ sB (fun c q => ⟨q.1, by omega⟩) kh4 (by omega) hd
    · have hd : doubleR nn n fl last = ((putR nn fl last p).1, (putR nn fl last p).2.1, (putR nn fl last p).2.2, 0) := by unfold doubleR; rw [hlk]; simp [hneg]
      rw [hcs3] at hnb4
      simp (disch := first | omega | (simp only [newRow_size, Array.size_setIfInBounds, Array.size_push]; done) | (simp only [newRow_size, Array.size_setIfInBounds, Array.size_push]; omega)) [r38_5, hneg, eqT, eqF, neT, neF, ltT, ltF, leT, leF, nltT, nltF, nleT, nleF, nneT, nneF, List.getElem?_cons_zero, List.getElem?_cons_succ, r38_7, hnb4, ov3, t1]
      rw [← hcs3]
      exact fin g4 cs3 ((putR nn fl last p).1, (putR nn fl last p).2.1, (putR nn fl last p).2.2, 0) _ s4 hok4 kh4 (by omega) hd

theorem refNumbers_spec {F : Nat} (hF : 1000 ≤ F) {ok : Nat → Prop} {h : H} {cs : List Value} {fl : Flight} {last : Int} {nn : Bool} (s : RefL ok h cs fl last nn) (hl : fl.length ≤ 256) :
    Ans (cf F 28 [.agg ⟨cs⟩] h) fun u h' => SlR (fun c => h.size ≤ c) 1 IntC h' u (fl.map (·.1)) ∧ Kept h h' [] := by
  generalize hQ : (fun (u : Value) (h' : H) => SlR (fun c => h.size ≤ c) 1 IntC h' u (fl.map (·.1)) ∧ Kept h h' []) = Q
  obtain ⟨F, rfl⟩ : ∃ G, F = G + 1 := ⟨F - 1, by omega⟩
  obtain ⟨v, rfl, s⟩ := s
  have ov := s.one
  simp only [oneCell] at ov
  have hln := s.len
  rw [cf_step (a := a28) rfl rfl (by simp [a28])]
  simp (disch := first | omega | (simp only [newRow_size, Array.size_setIfInBounds, Array.size_push]; done) | (simp only [newRow_size, Array.size_setIfInBounds, Array.size_push]; omega)) [a28, r28_0, ov, r28_1, r28_2]
  have kR := rowKept h [v, .int .i64 last, .bool nn] 0 []
  have hR : hget (Ev.newRow h [v, .int .i64 last, .bool nn] 0 []) h.size = some (.cells [v, .int .i64 last, .bool nn] 0 true []) := by simp
  have zR : (Ev.newRow h [v, .int .i64 last, .bool nn] 0 []).size = h.size + 1 := by simp
  generalize Ev.newRow h [v, .int .i64 last, .bool nn] 0 [] = g at kR hR zR ⊢
  have sg := SlF.imp s (ok' := fun c => ok c ∧ c < h.size) (fun c hc q => ⟨q, hc⟩) (keep_of kR.c (by simp))
  refine loop_rule (fun m e g' => ∃ (i : Nat) (u : Value), m = fl.length - i ∧ i ≤ fl.length ∧ e = [(1, .pointer (some ⟨h.size, 0, none⟩)), (3, u), (4, .int .i64 i)] ∧ (∀ b, b < h.size + 1 → hget g' b = hget g b) ∧ h.size + 1 ≤ g'.size ∧ Bld (fun c => h.size + 1 ≤ c) 1 IntC g' u ((fl.take i).map (·.1))) ?_ _ fl.length _ _ (by omega) ⟨0, .slice none 0 0, by omega, by omega, rfl, fun _ _ => rfl, by omega, Bld.nil _ _ _ _⟩
  rintro m e g' again ⟨i, u, rfl, hi, rfl, kg, zg, bu⟩ ih
  have hw : IntKind.i64.wrap ((i : Int) + 1) = ((i + 1 : Nat) : Int) := by rw [wrap_id (by omega) (by omega)]; rfl
  have n0 := (kg h.size (by omega)).trans hR
  have n0s := lt_of_get n0
  have sg' : SlR (fun c => ok c ∧ c < h.size) 5 PclC g' v fl := SlF.imp sg (fun _ _ q => q) (fun b zs hb hz => (cel_congr (kg b (by omega))).trans hz)
  by_cases hlt : i < fl.length
  · obtain ⟨x, hx⟩ : ∃ x, fl[i]? = some x := ⟨_, List.getElem?_eq_getElem hlt⟩
    obtain ⟨b, o, c, csx, es, lv, an, rfl, hk, hg, hle, hpc⟩ := sg'.at' hx
    obtain ⟨e5, e1, e3, e4⟩ := pc_at hpc hle
    have hgs := lt_of_get hg
    simp (disch := first | omega | (simp only [newRow_size, Array.size_setIfInBounds, Array.size_push]; done) | (simp only [newRow_size, Array.size_setIfInBounds, Array.size_push]; omega)) [l28_6, r28_3, n0, hln, eqT, eqF, neT, neF, ltT, ltF, leT, leF, nltT, nltF, nleT, nleF, nneT, nneF, List.getElem?_cons_zero, List.getElem?_cons_succ, r28_4, hg, e1, srcOf]
    have kN := rowKept g' [.int .i64 x.1] 1 []
    have bN := bu.kept kN (by simp) (fun cs t _ q => q)
    refine Ans.next (bN.push (x := x.1) (bytes := 8) int_any rfl (by simp; omega) (by simp; omega) rfl) ?_
    rintro u' h5 ⟨b5, z5, g5, _⟩
    simp only [newRow_size] at z5
    simp (disch := first | omega | (simp only [newRow_size, Array.size_setIfInBounds, Array.size_push]; done) | (simp only [newRow_size, Array.size_setIfInBounds, Array.size_push]; omega)) [r28_5, hw]
    refine ih (fl.length - (i + 1)) _ _ (by omega) ⟨i + 1, u', rfl, by omega, rfl, fun b hb => (g5 b (by omega)).trans ((kN.get (by omega) (by simp)).trans (kg b hb)), by omega, ?_⟩
    rw [take_snoc hx]
    simpa using b5
  · have hii : i = fl.length := by omega
    subst hii
    rw [List.take_length] at bu
    simp (disch := first | omega | (simp only [newRow_size, Array.size_setIfInBounds, Array.size_push]; done) | (simp only [newRow_size, Array.size_setIfInBounds, Array.size_push]; omega)) [l28_6, r28_3, n0, hln, eqT, eqF, neT, neF, ltT, ltF, leT, leF, nltT, nltF, nleT, nleF, nneT, nneF, List.getElem?_cons_zero, List.getElem?_cons_succ, r28_7]
    subst hQ
    exact Ans.of ⟨SlI.imp bu.sl (fun c _ q => by have : h.size + 1 ≤ c := q; show h.size ≤ c; omega) (fun _ _ _ e => e), ⟨by omega, fun c hc _ => (kg c (by omega)).trans (kR.get hc (by simp))⟩⟩

theorem ints_same {F : Nat} (hF : 1000 ≤ F) {ok ok' : Nat → Prop} {h : H} {v w : Value} {xs : List Int} (s : SlR ok 1 IntC h v xs) (t : SlR ok' 1 IntC h w xs) (hs : xs.length ≤ 900) : Ans (cf F 27 [v, w] h) fun u h' => u = .bool true ∧ h' = h := by
  obtain ⟨F, rfl⟩ : ∃ G, F = G + 1 := ⟨F - 1, by omega⟩
  have hl := s.len
  have hl2 := t.len
  rw [cf_step (a := a27) rfl rfl (by simp [a27])]
  simp (disch := first | omega | (simp only [newRow_size, Array.size_setIfInBounds, Array.size_push]; done) | (simp only [newRow_size, Array.size_setIfInBounds, Array.size_push]; omega)) [a27, r27_0, r27_1, r27_3, hl, hl2, eqT, eqF, neT, neF, ltT, ltF, leT, leF, nltT, nltF, nleT, nleF, nneT, nneF, List.getElem?_cons_zero, List.getElem?_cons_succ]
  refine loop_rule (fun m e g => ∃ (i : Nat), m = xs.length - i ∧ i ≤ xs.length ∧ e = [(0, v), (1, w), (5, .int .i64 i)] ∧ g = h) ?_ _ xs.length _ _ (by omega) ⟨0, by omega, by omega, rfl, rfl⟩
  rintro m e g again ⟨i, rfl, hi, rfl, rfl⟩ ih
  have hw : IntKind.i64.wrap ((i : Int) + 1) = ((i + 1 : Nat) : Int) := by rw [wrap_id (by omega) (by omega)]; rfl
  by_cases hlt : i < xs.length
  · obtain ⟨x, hx⟩ : ∃ x, xs[i]? = some x := ⟨_, List.getElem?_eq_getElem hlt⟩
    obtain ⟨b, o, c, cs, es, lv, an, rfl, _, hg, hle, hR⟩ := s.at' hx
    obtain ⟨b', o', c', cs', es', lv', an', rfl, _, hg', hle', hR'⟩ := t.at' hx
    have hR : (cs.drop (o + i * 1)).take 1 = [.int .i64 x] := hR
    have hR' : (cs'.drop (o' + i * 1)).take 1 = [.int .i64 x] := hR'
    rw [Nat.mul_one] at hR hR' hle hle'
    simp (disch := first | omega | (simp only [newRow_size, Array.size_setIfInBounds, Array.size_push]; done) | (simp only [newRow_size, Array.size_setIfInBounds, Array.size_push]; omega)) [l27_8, r27_4, hl, eqT, eqF, neT, neF, ltT, ltF, leT, leF, nltT, nltF, nleT, nleF, nneT, nneF, List.getElem?_cons_zero, List.getElem?_cons_succ, d27_5, hg, hR, hg', hR', r27_7, hw]
    exact ih (xs.length - (i + 1)) _ _ (by omega) ⟨i + 1, rfl, by omega, rfl, rfl⟩
  · have hii : i = xs.length := by omega
    subst hii
    simp (disch := first | omega | (simp only [newRow_size, Array.size_setIfInBounds, Array.size_push]; done) | (simp only [newRow_size, Array.size_setIfInBounds, Array.size_push]; omega)) [l27_8, r27_4, hl, eqT, eqF, neT, neF, ltT, ltF, leT, leF, nltT, nltF, nleT, nleF, nneT, nneF, List.getElem?_cons_zero, List.getElem?_cons_succ, r27_9]
    exact Ans.of ⟨rfl, rfl⟩

end Go.Proofs.Ytmenfnapbggglaa

/- The document's line: Spoil. -/
set_option linter.unusedSimpArgs false
set_option linter.unusedVariables false
namespace Go.Proofs.Ytmenfnapbggglaa
open Go.Ev

def U8C (h : H) (cs : List Value) (c : UInt8) : Prop := cs = [.int .u8 c.toNat]
theorem u8_any (h h' : H) (cs : List Value) (x : UInt8) (q : U8C h cs x) : U8C h' cs x := q

theorem u8_cells : ∀ {l : List UInt8} {cs : List Value}, cs.length = l.length → (∀ (i : Nat) (x : UInt8), l[i]? = some x → (cs.drop i).take 1 = [.int .u8 x.toNat]) → cs = l.map fun b => .int .u8 b.toNat := by
  intro l cs h1 h2
  apply List.ext_getElem (by simpa using h1)
  intro i hi hi'
  simp at hi'
  have := h2 i l[i] (List.getElem?_eq_getElem hi')
  rw [List.take_one, List.head?_drop, List.getElem?_eq_getElem hi] at this
  simp at this
  simp [this]

/-- A list of bytes that was built reads as a string. -/
theorem Bld.str {B : Nat} {h : H} {u : Value} {l : List UInt8} (s : Bld (fun c => B ≤ c) 1 U8C h u l) (hne : l ≠ []) : ∃ b, u = .slice (some ⟨b, 0, none⟩) l.length l.length ∧ rd h b 0 l.length = some (l.map fun b => .int .u8 b.toNat) := by
  rcases s with ⟨_, e⟩ | ⟨b, cs, an, e, hk, hb, hl, hi⟩
  · exact (hne e).elim
  · rw [Nat.mul_one] at hl
    have hcs := u8_cells hl (fun i x hx => by have := hi i x hx; rw [Nat.mul_one] at this; exact this)
    refine ⟨b, e, ?_⟩
    have hb' : h[b]? = some (.cells cs 1 true an) := hb
    simp only [rd, hb', Nat.zero_add, hl, Nat.le_refl, if_true, List.drop_zero]
    rw [List.take_of_length_le (by omega), hcs]

def spB : ACode := (.seq (.region r39_10 [1, 2, 3, 4, 8, 10, 11, 12, 13]) (.block 0 (.loop [1, 2, 3, 4, 8, 10, 11, 12, 13] l39_17)))

theorem turnB_get (t : ByteArray) (j : Nat) (turn : Int) (k : Nat) (c : UInt8) (hc : t.data[k]? = some c) : (turnB t j turn).data.toList[k]? = some (if k = j then xorB c turn else c) := by
  have hc' : t.data.toList[k]? = some c := by rw [Array.getElem?_toList]; exact hc
  have hkl := (List.getElem?_eq_some_iff.1 hc').1
  unfold turnB
  simp only [List.toList_toArray]
  by_cases h : k = j
  · subst h
    rw [if_pos rfl, List.getElem?_set_self hkl]
    congr 2
    rw [List.getD_eq_getElem?_getD, hc']; rfl
  · rw [if_neg h, List.getElem?_set_ne (fun e => h e.symm), hc']

set_option maxHeartbeats 1000000 in
theorem spB_spec {F : Nat} (hF : 1000 ≤ F) {g : H} {B mb : Nat} {m : Msg} {n at' turn : Int} {s4 s8 s10 : Value} (hm : hget g mb = some (.cells [.int .i64 m.fr, .int .i64 m.to, .string m.b] 0 true [])) (hmB : mb < B) (hB : B ≤ g.size) (ha : 0 ≤ at') (hsl : slen m.b ≠ 0) (hs6 : slen m.b ≤ 600)
    {kn kr : K} {ke : Nat → K} {Q : Value → H → Prop}
    (hk : ∀ g2 u (e : Env), (∀ b, b < B → hget g2 b = hget g b) → g.size ≤ g2.size → Bld (fun c => B ≤ c) 1 U8C g2 u (turnB m.b (at' % slen m.b).toNat turn).data.toList →
      Ans (kn ((1, .int .i64 n) :: (2, .int .i64 at') :: (3, .int .i64 turn) :: (4, s4) :: (8, s8) :: (10, s10) :: (11, .pointer (some ⟨mb, 0, none⟩)) :: (12, u) :: e) g2 []) Q) :
    Ans (evC F (cf F) spB kn ke kr [(1, .int .i64 n), (2, .int .i64 at'), (3, .int .i64 turn), (4, s4), (8, s8), (10, s10), (11, .pointer (some ⟨mb, 0, none⟩)), (12, .slice none 0 0)] g []) Q := by
  have c4z : ¬ ((slen m.b : Nat) : Int) = 0 := by omega
  obtain ⟨j, hj⟩ : ∃ j : Nat, (at' % (slen m.b : Int)).toNat = j := ⟨_, rfl⟩
  have htm : at'.tmod (slen m.b : Int) = (j : Int) := by
    rw [Int.tmod_eq_emod_of_nonneg (by omega)]
    have := Int.emod_nonneg at' c4z
    omega
  rw [hj] at hk
  have hlt' : (turnB m.b j turn).data.toList.length = slen m.b := by simp [turnB, Array.length_toList]
  simp (disch := first | omega | (simp only [newRow_size, Array.size_setIfInBounds, Array.size_push]; done) | (simp only [newRow_size, Array.size_setIfInBounds, Array.size_push]; omega)) [spB, r39_10]
  refine loop_rule (fun mm e g' => ∃ (k : Nat) (u : Value), mm = slen m.b - k ∧ k ≤ slen m.b ∧ e = [(1, .int .i64 n), (2, .int .i64 at'), (3, .int .i64 turn), (4, s4), (8, s8), (10, s10), (11, .pointer (some ⟨mb, 0, none⟩)), (12, u), (13, .int .i64 k)] ∧ (∀ b, b < B → hget g' b = hget g b) ∧ g.size ≤ g'.size ∧ Bld (fun c => B ≤ c) 1 U8C g' u ((turnB m.b j turn).data.toList.take k)) ?_ _ (slen m.b) _ _ (by omega) ⟨0, .slice none 0 0, by omega, by omega, rfl, fun _ _ => rfl, Nat.le_refl _, Bld.nil _ _ _ _⟩
  rintro mm e g' again ⟨k, u, rfl, hkl, rfl, kg, zg, bu⟩ ih
  have hw : IntKind.i64.wrap ((k : Int) + 1) = ((k + 1 : Nat) : Int) := by rw [wrap_id (by omega) (by omega)]; rfl
  have n0 := (kg mb hmB).trans hm
  have n0s := lt_of_get n0
  by_cases hlt : k < slen m.b
  · obtain ⟨c, hc⟩ : ∃ c, m.b.data[k]? = some c := ⟨m.b.data[k]'hlt, Array.getElem?_eq_getElem hlt⟩
    have hR := turnB_get m.b j turn k c hc
    by_cases hkj : k = j
    · subst hkj
      rw [if_pos rfl] at hR
      have kN := rowKept g' [.int .u8 (xorB c turn).toNat] 1 []
      have bN := bu.kept kN (by simp) (fun cs t _ q => q)
      simp (disch := first | omega | (simp only [newRow_size, Array.size_setIfInBounds, Array.size_push]; done) | (simp only [newRow_size, Array.size_setIfInBounds, Array.size_push]; omega)) [l39_17, r39_11, n0, eqT, eqF, neT, neF, ltT, ltF, leT, leF, nltT, nltF, nleT, nleF, nneT, nneF, List.getElem?_cons_zero, List.getElem?_cons_succ, r39_12, hc, r39_13, htm, c4z, r39_14, r39_15, srcOf, xorB_int]
      refine Ans.next (bN.push (x := xorB c turn) (bytes := 1) u8_any rfl (by rw [List.length_take]; omega) (by simp; omega) rfl) ?_
      rintro u' h5 ⟨b5, z5, g5, _⟩
      simp only [newRow_size] at z5
      simp (disch := first | omega | (simp only [newRow_size, Array.size_setIfInBounds, Array.size_push]; done) | (simp only [newRow_size, Array.size_setIfInBounds, Array.size_push]; omega)) [r39_16, hw]
      refine ih (slen m.b - (k + 1)) _ _ (by omega) ⟨k + 1, u', rfl, by omega, rfl, fun b hb => (g5 b hb).trans ((kN.get (by omega) (by simp)).trans (kg b hb)), by omega, ?_⟩
      rw [take_snoc hR]
      exact b5
    · rw [if_neg hkj] at hR
      have kN := rowKept g' [.int .u8 c.toNat] 1 []
      have bN := bu.kept kN (by simp) (fun cs t _ q => q)
      have hkj' : ¬ (k : Int) = (j : Int) := by omega
      simp (disch := first | omega | (simp only [newRow_size, Array.size_setIfInBounds, Array.size_push]; done) | (simp only [newRow_size, Array.size_setIfInBounds, Array.size_push]; omega)) [l39_17, r39_11, n0, eqT, eqF, neT, neF, ltT, ltF, leT, leF, nltT, nltF, nleT, nleF, nneT, nneF, List.getElem?_cons_zero, List.getElem?_cons_succ, r39_12, hc, r39_13, htm, c4z, hkj', r39_15, srcOf]
      refine Ans.next (bN.push (x := c) (bytes := 1) u8_any rfl (by rw [List.length_take]; omega) (by simp; omega) rfl) ?_
      rintro u' h5 ⟨b5, z5, g5, _⟩
      simp only [newRow_size] at z5
      simp (disch := first | omega | (simp only [newRow_size, Array.size_setIfInBounds, Array.size_push]; done) | (simp only [newRow_size, Array.size_setIfInBounds, Array.size_push]; omega)) [r39_16, hw]
      refine ih (slen m.b - (k + 1)) _ _ (by omega) ⟨k + 1, u', rfl, by omega, rfl, fun b hb => (g5 b hb).trans ((kN.get (by omega) (by simp)).trans (kg b hb)), by omega, ?_⟩
      rw [take_snoc hR]
      exact b5
  · have hii : k = slen m.b := by omega
    subst hii
    rw [List.take_of_length_le (by omega)] at bu
    simp (disch := first | omega | (simp only [newRow_size, Array.size_setIfInBounds, Array.size_push]; done) | (simp only [newRow_size, Array.size_setIfInBounds, Array.size_push]; omega)) [l39_17, r39_11, n0, eqT, eqF, neT, neF, ltT, ltF, leT, leF, nltT, nltF, nleT, nleF, nneT, nneF, List.getElem?_cons_zero, List.getElem?_cons_succ]
    exact hk g' u _ kg zg bu

end Go.Proofs.Ytmenfnapbggglaa
