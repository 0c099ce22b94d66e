/- Several texts in one: Ev0, Ev1, Ev2, Ev3, Ev4, Ev5, Ev6. -/
import Derived.Defers
import Derived.Orders
import Derived.Deep.AppendSrc
import Derived.Deep.MidRow
import Derived.Laws.StructEq
import Derived.Laws.BytesString
import Derived.Laws.Rows
import Derived.Laws.Entries

/- Ev0: the abstract heap of the evaluator, its relation to the model's world, and how relations compose. -/
namespace Go.Ev

/-- An abstract value of which nothing is known. -/
def junk : Value := .complex .f32 7 7

/-- An abstract block. cells: the known cells, cells an element (0: it is no row of elements), whether it may be written, the blocks that may share its memory. -/
inductive Blk where
  | dead
  | cells (cs : List Value) (es : Nat) (live : Bool) (anc : List Nat)
  | map (es : List (Value × Value)) (live : Bool)
  deriving Inhabited

abbrev H := Array Blk

def Blk.isLive : Blk → Bool
  | .cells _ _ l _ => l
  | .map _ l => l
  | .dead => false

def Blk.isDead : Blk → Bool
  | .dead => true
  | _ => false

def Blk.len : Blk → Nat
  | .cells cs _ _ _ => cs.length
  | _ => 0

def Blk.ancs : Blk → List Nat
  | .cells _ _ _ a => a
  | _ => []

/-- Where an abstract block lies: block, shift of offsets, cells an element, cells behind the known ones. -/
structure Info where
  blk : Nat
  sh : Nat
  es : Nat
  room : Nat

abbrev Ren := Nat → Option Info

mutual
inductive VR (ρ : Ren) : Value → Value → Prop
  | junk (v : Value) : VR ρ junk v
  | bool (b : Bool) : VR ρ (.bool b) (.bool b)
  | int (k : IntKind) (n : Int) : VR ρ (.int k n) (.int k n)
  | string (s : ByteArray) : VR ρ (.string s) (.string s)
  | pnil : VR ρ (.pointer none) (.pointer none)
  | ptr {b o : Nat} {i : Info} (h : ρ b = some i) : VR ρ (.pointer (some ⟨b, o, none⟩)) (.pointer (some ⟨i.blk, o + i.sh, none⟩))
  | snil : VR ρ (.slice none 0 0) (.slice none 0 0)
  | slice {b o o' n c c' : Nat} {i : Info} (h : ρ b = some i) (hn : n ≤ c) (hc : c ≤ c') (hr : (c' - c) * i.es ≤ i.room) (ho : o' = o + i.sh ∨ c' = 0) :
      VR ρ (.slice (some ⟨b, o, none⟩) n c) (.slice (some ⟨i.blk, o', none⟩) n c')
  | dang (a : Addr) : VR ρ (.slice (some ⟨0, 0, some 0⟩) 0 0) (.slice (some a) 0 0)
  | mnil : VR ρ (.map none) (.map none)
  | map {b : Nat} {i : Info} (h : ρ b = some i) : VR ρ (.map (some b)) (.map (some i.blk))
  | func {f : Fn} {fs fs' cs cs' : List Value} (hf : VRs ρ fs fs') (hc : VRs ρ cs cs') : VR ρ (.func f ⟨fs⟩ ⟨cs⟩) (.func f ⟨fs'⟩ ⟨cs'⟩)
  | fnil : VR ρ .nilFunc .nilFunc
  | inil : VR ρ .nilIface .nilIface
  | iface (t : TypeId) {v v' : Value} (h : VR ρ v v') : VR ρ (.iface t v) (.iface t v')
  | agg {cs cs' : List Value} (h : VRs ρ cs cs') : VR ρ (.agg ⟨cs⟩) (.agg ⟨cs'⟩)
  | tuple {cs cs' : List Value} (h : VRs ρ cs cs') : VR ρ (.tuple ⟨cs⟩) (.tuple ⟨cs'⟩)
inductive VRs (ρ : Ren) : List Value → List Value → Prop
  | nil : VRs ρ [] []
  | cons {v v' : Value} {l l' : List Value} (h : VR ρ v v') (t : VRs ρ l l') : VRs ρ (v :: l) (v' :: l')
end

theorem VRs.length {ρ : Ren} : ∀ {l l' : List Value}, VRs ρ l l' → l.length = l'.length
  | _, _, .nil => rfl
  | _, _, .cons _ t => by simp [t.length]

theorem VRs.get {ρ : Ren} : ∀ {l l' : List Value}, VRs ρ l l' → ∀ {i : Nat} {v : Value}, l[i]? = some v → ∃ v', l'[i]? = some v' ∧ VR ρ v v'
  | _, _, .nil, i, v, h => by simp at h
  | _, _, .cons (v' := v') hv t, i, v, h => by
    cases i with
    | zero => simp at h; subst h; exact ⟨v', by simp, hv⟩
    | succ i => simp only [List.getElem?_cons_succ] at h ⊢; exact t.get h

theorem VRs.of_get {ρ : Ren} : ∀ {l l' : List Value}, l.length = l'.length → (∀ (i : Nat) (v : Value), l[i]? = some v → ∃ v', l'[i]? = some v' ∧ VR ρ v v') → VRs ρ l l'
  | [], [], _, _ => .nil
  | [], _ :: _, h, _ => by simp at h
  | _ :: _, [], h, _ => by simp at h
  | a :: l, b :: l', h, g => by
    obtain ⟨v', hv, hr⟩ := g 0 a rfl
    simp at hv; subst hv
    exact .cons hr (VRs.of_get (by simpa using h) fun i v hi => by simpa using g (i + 1) v (by simpa using hi))

theorem VRs.append {ρ : Ren} : ∀ {l l' m m' : List Value}, VRs ρ l l' → VRs ρ m m' → VRs ρ (l ++ m) (l' ++ m')
  | _, _, _, _, .nil, h => h
  | _, _, _, _, .cons v t, h => .cons v (t.append h)

theorem VRs.take {ρ : Ren} : ∀ {l l' : List Value} (n : Nat), VRs ρ l l' → VRs ρ (l.take n) (l'.take n)
  | _, _, 0, _ => by simp; exact .nil
  | _, _, _ + 1, .nil => by simp; exact .nil
  | _, _, n + 1, .cons v t => by simp; exact .cons v (t.take n)

theorem VRs.drop {ρ : Ren} : ∀ {l l' : List Value} (n : Nat), VRs ρ l l' → VRs ρ (l.drop n) (l'.drop n)
  | _, _, 0, h => by simpa using h
  | _, _, _ + 1, .nil => by simp; exact .nil
  | _, _, n + 1, .cons v t => by simp; exact t.drop n

def Ren.le (ρ ρ' : Ren) : Prop := ∀ b i, ρ b = some i → ρ' b = some i

theorem Ren.le.refl (ρ : Ren) : ρ.le ρ := fun _ _ h => h
theorem Ren.le.trans {ρ ρ' ρ'' : Ren} (h : ρ.le ρ') (h' : ρ'.le ρ'') : ρ.le ρ'' := fun b i hb => h' b i (h b i hb)

mutual
theorem VR.mono {ρ ρ' : Ren} (hle : ρ.le ρ') : ∀ {v v' : Value}, VR ρ v v' → VR ρ' v v'
  | _, _, .junk v => .junk v
  | _, _, .bool b => .bool b
  | _, _, .int k n => .int k n
  | _, _, .string s => .string s
  | _, _, .pnil => .pnil
  | _, _, .ptr h => .ptr (hle _ _ h)
  | _, _, .snil => .snil
  | _, _, .slice h hn hc hr ho => .slice (hle _ _ h) hn hc hr ho
  | _, _, .dang a => .dang a
  | _, _, .mnil => .mnil
  | _, _, .map h => .map (hle _ _ h)
  | _, _, .func hf hc => .func (hf.mono hle) (hc.mono hle)
  | _, _, .fnil => .fnil
  | _, _, .inil => .inil
  | _, _, .iface t h => .iface t (h.mono hle)
  | _, _, .agg h => .agg (h.mono hle)
  | _, _, .tuple h => .tuple (h.mono hle)
theorem VRs.mono {ρ ρ' : Ren} (hle : ρ.le ρ') : ∀ {l l' : List Value}, VRs ρ l l' → VRs ρ' l l'
  | _, _, .nil => .nil
  | _, _, .cons h t => .cons (h.mono hle) (t.mono hle)
end

/-- One cell may hold it (and something is known of it). -/
def oneCell : Value → Bool
  | .agg _ | .tuple _ | .complex _ _ _ => false
  | _ => true

/-- The cells of a known value. -/
def vcells : Value → Option (List Value)
  | .complex _ _ _ | .tuple _ => none
  | .agg cs => some cs.toList
  | v => some [v]

theorem VR.cells {ρ : Ren} {v v' : Value} {l : List Value} (h : VR ρ v v') (hv : vcells v = some l) : VRs ρ l v'.cells.toList := by
  cases h <;> simp [vcells, Go.Ev.junk, Value.cells] at hv ⊢ <;> subst hv <;> first
    | assumption
    | exact .cons (by constructor <;> assumption) .nil
    | exact .cons (.ptr (by assumption)) .nil

theorem oneCell_plain {v : Value} (h : oneCell v = true) : (∀ c, v ≠ .agg c) ∧ (∀ c, v ≠ .tuple c) := by
  cases v <;> simp [oneCell] at h ⊢

theorem VR.oneCell {ρ : Ren} {v v' : Value} (h : VR ρ v v') (hv : oneCell v = true) : (∀ c, v' ≠ .agg c) ∧ (∀ c, v' ≠ .tuple c) := by
  cases h <;> simp [Ev.oneCell, Go.Ev.junk] at hv ⊢

/-- How a block lies in the world. -/
def BR (ρ : Ren) (i : Info) (w : World) : Blk → Prop
  | .dead => True
  | .cells cs es lv _ => i.es = es ∧ (∀ j, j < cs.length + i.sh + i.room → (w.cell? ⟨i.blk, j, none⟩).isSome = true ∧ (lv = true → w.frozen? ⟨i.blk, j, none⟩ = false)) ∧
      (∀ (j : Nat) (v : Value), cs[j]? = some v → ∃ v', w.cell? ⟨i.blk, j + i.sh, none⟩ = some v' ∧ VR ρ v v')
  | .map m _ => ∃ (es' : Array MapEntry) (clock : Nat), w.heap[i.blk]? = some (.map es' clock) ∧
      VRs ρ (m.map (·.1)) (es'.toList.map (·.key)) ∧ VRs ρ (m.map (·.2)) (es'.toList.map (·.val)) ∧ (∀ x ∈ es'.toList, x.born < clock) ∧ (es'.toList.map (·.born)).Nodup

theorem cell_of_heap {w w' : World} {b : Nat} (h : w'.heap[b]? = w.heap[b]?) (j : Nat) : w'.cell? ⟨b, j, none⟩ = w.cell? ⟨b, j, none⟩ := by
  simp only [World.cell?, h]
theorem frozen_of_heap {w w' : World} {b : Nat} (h : w'.heap[b]? = w.heap[b]?) (j : Nat) : w'.frozen? ⟨b, j, none⟩ = w.frozen? ⟨b, j, none⟩ := by
  simp only [World.frozen?, h]

theorem BR.keep {ρ ρ' : Ren} (hle : ρ.le ρ') {i : Info} {x : Blk} {w w' : World} (e : w'.heap[i.blk]? = w.heap[i.blk]?) (h : BR ρ i w x) : BR ρ' i w' x := by
  cases x with
  | dead => trivial
  | cells cs es l a =>
    obtain ⟨h1, h2, h3⟩ := h
    refine ⟨h1, fun j hj => ?_, fun j v hj => ?_⟩
    · rw [cell_of_heap e, frozen_of_heap e]; exact h2 j hj
    · rw [cell_of_heap e]; obtain ⟨v', a, b⟩ := h3 j v hj; exact ⟨v', a, b.mono hle⟩
  | map m l =>
    obtain ⟨es', clock, h1, h2, h3, h4⟩ := h
    exact ⟨es', clock, e.trans h1, h2.mono hle, h3.mono hle, h4⟩

theorem BR.mono {ρ ρ' : Ren} (hle : ρ.le ρ') {i : Info} {x : Blk} {w : World} (h : BR ρ i w x) : BR ρ' i w x := h.keep hle rfl

/-- The abstract heap against the world. -/
structure Rel (ρ : Ren) (h : H) (w : World) : Prop where
  dom : ∀ b i, ρ b = some i → b < h.size
  bnd : ∀ b i, ρ b = some i → i.blk < w.heap.size
  blk : ∀ b i x, ρ b = some i → h[b]? = some x → BR ρ i w x
  sep : ∀ b c i j x y, ρ b = some i → ρ c = some j → i.blk = j.blk → b ≠ c → h[b]? = some x → h[c]? = some y → x.isDead = false → y.isDead = false →
    (b ∈ y.ancs ∧ x.isLive = false ∧ x.len + i.sh ≤ y.len + j.sh) ∨ (c ∈ x.ancs ∧ y.isLive = false ∧ y.len + j.sh ≤ x.len + i.sh)
  anc : ∀ b i x a, ρ b = some i → h[b]? = some x → a ∈ x.ancs → ρ a ≠ none

/-- What a step keeps. -/
structure Ext (ρ : Ren) (h : H) (w : World) (ρ' : Ren) (h' : H) (w' : World) : Prop where
  le : ρ.le ρ'
  hsz : h.size ≤ h'.size
  wsz : w.heap.size ≤ w'.heap.size
  af : ∀ b, b < h.size → ρ b = none → h'[b]? = h[b]?
  cf : ∀ b', b' < w.heap.size → (∀ b i x, ρ b = some i → i.blk = b' → h[b]? = some x → x.isLive = false) → w'.heap[b']? = w.heap[b']?
  nw : ∀ b i, ρ' b = some i → ρ b = some i ∨ (h.size ≤ b ∧ (w.heap.size ≤ i.blk ∨ ∃ b0 i0 x, ρ b0 = some i0 ∧ i0.blk = i.blk ∧ h[b0]? = some x ∧ x.isLive = true))
  dull : ∀ b x x', b < h.size → h[b]? = some x → h'[b]? = some x' → x.isLive = false → x'.isLive = false
  io : w'.os = w.os ∧ w'.output = w.output

theorem Ext.refl (ρ : Ren) (h : H) (w : World) : Ext ρ h w ρ h w where
  le := .refl _
  hsz := Nat.le_refl _
  wsz := Nat.le_refl _
  af := fun _ _ _ => rfl
  cf := fun _ _ _ => rfl
  nw := fun _ _ h => .inl h
  dull := fun _ _ _ _ h1 h2 h3 => by rw [h1] at h2; cases h2; exact h3
  io := ⟨rfl, rfl⟩

theorem Ext.trans {ρ ρ1 ρ2 : Ren} {h h1 h2 : H} {w w1 w2 : World} (r : Rel ρ h w) (a : Ext ρ h w ρ1 h1 w1) (b : Ext ρ1 h1 w1 ρ2 h2 w2) : Ext ρ h w ρ2 h2 w2 where
  le := a.le.trans b.le
  hsz := Nat.le_trans a.hsz b.hsz
  wsz := Nat.le_trans a.wsz b.wsz
  af := fun x hx hn => by
    have e1 := a.af x hx hn
    rcases hr : ρ1 x with _ | i
    · rw [b.af x (Nat.lt_of_lt_of_le hx a.hsz) hr, e1]
    · rcases a.nw x i hr with h0 | ⟨h0, _⟩
      · rw [hn] at h0; cases h0
      · omega
  cf := fun b' hb hl => by
    rw [b.cf b' (Nat.lt_of_lt_of_le hb a.wsz) ?_, a.cf b' hb hl]
    intro x i y hx hi hy
    rcases a.nw x i hx with h0 | ⟨_, h1 | ⟨b0, i0, z, h1, h2, h3, h4⟩⟩
    · have hlt := r.dom x i h0
      have : ∃ z, h[x]? = some z := ⟨h[x], by simp [hlt]⟩
      obtain ⟨z, hz⟩ := this
      exact a.dull x z y hlt hz hy (hl x i z h0 hi hz)
    · omega
    · have := hl b0 i0 z h1 (h2.trans hi) h3
      rw [this] at h4; cases h4
  nw := fun x i hx => by
    rcases b.nw x i hx with h0 | ⟨h0, h1⟩
    · rcases a.nw x i h0 with h2 | ⟨h2, h3⟩
      · exact .inl h2
      · exact .inr ⟨h2, h3⟩
    · refine .inr ⟨Nat.le_trans a.hsz h0, ?_⟩
      rcases h1 with h1 | ⟨b0, i0, y, h2, h3, h4, h5⟩
      · exact .inl (Nat.le_trans a.wsz h1)
      · rcases a.nw b0 i0 h2 with h6 | ⟨h6, h7 | ⟨b1, i1, z, g1, g2, g3, g4⟩⟩
        · refine .inr ⟨b0, i0, h[b0]'(r.dom _ _ h6), h6, h3, by simp [r.dom _ _ h6], ?_⟩
          cases hc : (h[b0]'(r.dom _ _ h6)).isLive with
          | true => rfl
          | false =>
            have := a.dull b0 (h[b0]'(r.dom _ _ h6)) y (r.dom _ _ h6) (by simp [r.dom _ _ h6]) h4 hc
            rw [this] at h5; cases h5
        · exact .inl (by omega)
        · exact .inr ⟨b1, i1, z, g1, g2.trans h3, g3, g4⟩
  dull := fun x y y' hx h1' h2' hd => by
    have hx1 := Nat.lt_of_lt_of_le hx a.hsz
    obtain ⟨z, hz⟩ : ∃ z, h1[x]? = some z := ⟨h1[x], by simp [hx1]⟩
    exact b.dull x z y' hx1 hz h2' (a.dull x y z hx h1' hz hd)
  io := ⟨b.io.1.trans a.io.1, b.io.2.trans a.io.2⟩

end Go.Ev

/- Ev1: reading, writing and making blocks, against the model's world. -/
namespace Go.Ev

/-! ### the world -/
theorem heap_setCell_other (w : World) (a : Addr) (v : Value) {j : Nat} (h : j ≠ a.block) : (w.setCell a v).heap[j]? = w.heap[j]? := by
  simp only [World.setCell]
  rw [Array.getElem?_modify]
  simp [Ne.symm h]

theorem heap_setCells_other (b : Nat) : ∀ (vs : List Value) (o : Nat) (w : World) (j : Nat), j ≠ b → (w.setCells b o vs).heap[j]? = w.heap[j]?
  | [], _, _, _, _ => rfl
  | v :: r, o, w, j, h => by
    rw [World.setCells, heap_setCells_other b r _ _ j h, heap_setCell_other _ _ _ h]

theorem size_setCells (b : Nat) : ∀ (vs : List Value) (o : Nat) (w : World), (w.setCells b o vs).heap.size = w.heap.size
  | [], _, _ => rfl
  | v :: r, o, w => by rw [World.setCells, size_setCells b r]; simp [World.setCell]

theorem io_setCells (b : Nat) : ∀ (vs : List Value) (o : Nat) (w : World), (w.setCells b o vs).os = w.os ∧ (w.setCells b o vs).output = w.output
  | [], _, _ => ⟨rfl, rfl⟩
  | v :: r, o, w => by rw [World.setCells]; exact io_setCells b r _ _

theorem oneCell'_of {v : Value} (h : (∀ c, v ≠ .agg c) ∧ (∀ c, v ≠ .tuple c)) : v.oneCell' = true := by
  cases v <;> simp_all [Value.oneCell']

theorem VRs.one {ρ : Ren} : ∀ {l l' : List Value}, VRs ρ l l' → l.all oneCell = true → ∀ u ∈ l', u.oneCell' = true
  | _, _, .nil, _, u, hu => by cases hu
  | _, _, .cons h t, ha, u, hu => by
    rw [List.all_cons, Bool.and_eq_true] at ha
    cases hu with
    | head => exact oneCell'_of (h.oneCell ha.1)
    | tail _ hu => exact t.one ha.2 u hu

/-! ### the environment -/
abbrev Env := List (Nat × Value)
def Env.get : Env → Nat → Value
  | [], _ => junk
  | (k, v) :: r, t => bif k == t then v else Env.get r t
def Env.keep (s : Env) (ts : List Nat) : Env := ts.map fun t => (t, s.get t)

def EnvRel (ρ : Ren) (n : Nat) (s : Env) (tmps : Array Value) : Prop := tmps.size = n ∧ ∀ t, VR ρ (s.get t) (tmps.getD t undef)

theorem EnvRel.mono {ρ ρ' : Ren} (hle : ρ.le ρ') {n : Nat} {s : Env} {tmps : Array Value} (h : EnvRel ρ n s tmps) : EnvRel ρ' n s tmps := ⟨h.1, fun t => (h.2 t).mono hle⟩

theorem get_keep (s : Env) : ∀ (ts : List Nat) (t : Nat), (s.keep ts).get t = s.get t ∨ (s.keep ts).get t = junk
  | [], t => .inr rfl
  | k :: r, t => by
    simp only [Env.keep, List.map_cons, Env.get]
    by_cases e : k = t
    · subst e; simp
    · have : (k == t) = false := by simpa using e
      rw [this]; exact get_keep s r t

theorem EnvRel.keep {ρ : Ren} {n : Nat} {s : Env} {tmps : Array Value} (h : EnvRel ρ n s tmps) (ts : List Nat) : EnvRel ρ n (s.keep ts) tmps := ⟨h.1, fun t => by
  rcases get_keep s ts t with e | e <;> rw [e]
  · exact h.2 t
  · exact .junk _⟩

def konst : Value → Value
  | .bool b => .bool b
  | .int k n => .int k n
  | .string s => .string s
  | .pointer none => .pointer none
  | .slice none 0 0 => .slice none 0 0
  | .map none => .map none
  | .nilFunc => .nilFunc
  | .nilIface => .nilIface
  | _ => junk

theorem konst_sound (ρ : Ren) (v : Value) : VR ρ (konst v) v := by
  unfold konst
  split <;> first | exact .junk _ | constructor

def aeval (s : Env) : Operand → Value
  | .tmp t => s.get t
  | .const v => konst v
  | .func f => .func (.func f) #[] #[]
  | .global _ => junk

theorem aeval_sound {ρ : Ren} {n : Nat} {s : Env} {a : Act} (h : EnvRel ρ n s a.tmps) (x : Operand) : VR ρ (aeval s x) (a.eval x) := by
  cases x with
  | tmp t => exact h.2 t
  | const v => exact konst_sound ρ v
  | func f => exact .func .nil .nil
  | global g => exact .junk _

theorem aeval_map {ρ : Ren} {n : Nat} {s : Env} {a : Act} (h : EnvRel ρ n s a.tmps) : ∀ l : List Operand, VRs ρ (l.map (aeval s)) (l.map a.eval)
  | [] => .nil
  | x :: l => .cons (aeval_sound h x) (aeval_map h l)

theorem EnvRel.put {ρ : Ren} {n : Nat} {s : Env} {a : Act} (h : EnvRel ρ n s a.tmps) {v v' : Value} (hv : VR ρ v v') {d : Nat} (hd : d < n) : EnvRel ρ n ((d, v) :: s) (a.put (some d) v').tmps := by
  refine ⟨by simp [Act.put, h.1], fun t => ?_⟩
  simp only [Env.get, Act.put, Array.getD_eq_getD_getElem?]
  by_cases e : d = t
  · subst e
    have hb : d < a.tmps.size := by rw [h.1]; exact hd
    simp [hb]; exact hv
  · have : (d == t) = false := by simpa using e
    rw [this, Array.getElem?_setIfInBounds_ne e]
    have := h.2 t
    simpa [Array.getD_eq_getD_getElem?] using this

/-! ### reading -/
def rd (h : H) (b o n : Nat) : Option (List Value) :=
  match h[b]? with
  | some (.cells cs _ _ _) => if o + n ≤ cs.length then some ((cs.drop o).take n) else none
  | _ => none

theorem rd_rel {ρ : Ren} {h : H} {w : World} (r : Rel ρ h w) {b : Nat} {i : Info} (hb : ρ b = some i) {o n : Nat} {l : List Value} (e : rd h b o n = some l) :
    l.length = n ∧ ∃ l', VRs ρ l l' ∧ ∀ j v', l'[j]? = some v' → w.cell? ⟨i.blk, o + i.sh + j, none⟩ = some v' := by
  unfold rd at e
  split at e
  · rename_i cs es lv an hx
    split at e
    · rename_i hle
      cases e
      obtain ⟨_, _, hc⟩ := r.blk b i _ hb hx
      have hlen : ((cs.drop o).take n).length = n := by simp; omega
      refine ⟨hlen, (List.range n).map (fun j => (w.cell? ⟨i.blk, o + i.sh + j, none⟩).getD undef), VRs.of_get (by simp; omega) ?_, ?_⟩
      · intro j v hj
        have hjn : j < n := by
          have := (List.getElem?_eq_some_iff.1 hj).1
          omega
        have hv : cs[o + j]? = some v := by
          rw [List.getElem?_take, if_pos hjn, List.getElem?_drop] at hj; exact hj
        obtain ⟨v', h1, h2⟩ := hc (o + j) v hv
        have e1 : o + j + i.sh = o + i.sh + j := by omega
        rw [e1] at h1
        exact ⟨v', by simp [hjn, h1], h2⟩
      · intro j v' hj
        have hjn : j < n := by
          have := (List.getElem?_eq_some_iff.1 hj).1
          simpa using this
        have hlt : o + j < cs.length := by omega
        obtain ⟨u, h1, _⟩ := hc (o + j) cs[o + j] (by simp [hlt])
        have e1 : o + j + i.sh = o + i.sh + j := by omega
        rw [e1] at h1
        simp [hjn, h1] at hj
        rw [h1, hj]
    · cases e
  · cases e

/-! ### writing -/
def kill (h : H) : List Nat → H
  | [] => h
  | a :: r => kill (h.setIfInBounds a .dead) r

theorem kill_size : ∀ (l : List Nat) (h : H), (kill h l).size = h.size
  | [], _ => rfl
  | a :: r, h => by rw [kill, kill_size r]; simp

theorem kill_get : ∀ (l : List Nat) (h : H) (b : Nat), (kill h l)[b]? = if b ∈ l ∧ b < h.size then some .dead else h[b]?
  | [], _, _ => by simp [kill]
  | a :: r, h, b => by
    rw [kill, kill_get r]
    by_cases e : a = b
    · subst e
      by_cases hb : a < h.size
      · simp [hb]
      · simp [hb]
    · rw [Array.getElem?_setIfInBounds_ne e]
      simp [Ne.symm e]

def wr (h : H) (b o : Nat) (vs : List Value) : Option H :=
  match h[b]? with
  | some (.cells cs es true anc) =>
    if o + vs.length ≤ cs.length ∧ vs.all oneCell = true then some ((kill h anc).setIfInBounds b (.cells (cs.take o ++ vs ++ cs.drop (o + vs.length)) es true [])) else none
  | _ => none

theorem splice_get (cs vs : List Value) (o j : Nat) (h : o + vs.length ≤ cs.length) :
    (cs.take o ++ vs ++ cs.drop (o + vs.length))[j]? = if j < o then cs[j]? else if j < o + vs.length then vs[j - o]? else cs[j]? := by
  by_cases h1 : j < o
  · rw [if_pos h1, List.append_assoc, List.getElem?_append_left (by simp; omega), List.getElem?_take, if_pos h1]
  · rw [if_neg h1]
    by_cases h2 : j < o + vs.length
    · rw [if_pos h2, List.getElem?_append_left (by simp; omega), List.getElem?_append_right (by simp; omega)]
      congr 1; simp; omega
    · rw [if_neg h2, List.getElem?_append_right (by simp; omega), List.getElem?_drop]
      congr 1; simp; omega

theorem wr_rel {ρ : Ren} {h h' : H} {w : World} (r : Rel ρ h w) {b : Nat} {i : Info} (hb : ρ b = some i) {o : Nat} {vs vs' : List Value} (e : wr h b o vs = some h') (hv : VRs ρ vs vs') :
    (∀ j, j < vs'.length → (w.cell? ⟨i.blk, o + i.sh + j, none⟩).isSome = true) ∧ (∀ j, j < vs'.length → w.frozen? ⟨i.blk, o + i.sh + j, none⟩ = false) ∧ (∀ u ∈ vs', u.oneCell' = true) ∧
    Rel ρ h' (w.setCells i.blk (o + i.sh) vs') ∧ Ext ρ h w ρ h' (w.setCells i.blk (o + i.sh) vs') := by
  unfold wr at e
  split at e
  · rename_i cs es anc hx
    split at e
    · rename_i hle
      obtain ⟨hle, hone⟩ := hle
      cases e
      have hbr := r.blk b i _ hb hx
      obtain ⟨he, hthere, hc⟩ := hbr
      have hl := hv.length
      have hbs := r.dom b i hb
      have hin : ∀ j, j < vs'.length → (w.cell? ⟨i.blk, o + i.sh + j, none⟩).isSome = true ∧ w.frozen? ⟨i.blk, o + i.sh + j, none⟩ = false := fun j hj => have q := hthere (o + i.sh + j) (by omega); ⟨q.1, q.2 rfl⟩
      refine ⟨fun j hj => (hin j hj).1, fun j hj => (hin j hj).2, hv.one hone, ?_, ?_⟩
      · refine ⟨fun c k hk => by simp [kill_size]; exact r.dom c k hk, fun c k hk => by rw [size_setCells]; exact r.bnd c k hk, ?_, ?_, ?_⟩
        · intro c k x hk hcx
          by_cases ecb : c = b
          · subst ecb
            rw [hb] at hk; cases hk
            rw [Array.getElem?_setIfInBounds_self_of_lt (by simp [kill_size]; exact hbs)] at hcx
            cases hcx
            refine ⟨he, fun j hj => ?_, fun j v hj => ?_⟩
            · have hj' : j < cs.length + i.sh + i.room := by simp at hj; omega
              rw [World.frozen?_setCells]
              refine ⟨?_, (hthere j hj').2⟩
              by_cases hlo : o + i.sh ≤ j ∧ j < o + i.sh + vs'.length
              · have := World.cell?_setCells_in i.blk vs' (o + i.sh) w (fun q hq => (hin q hq).1) (j - (o + i.sh)) (by omega)
                rw [show o + i.sh + (j - (o + i.sh)) = j by omega] at this
                rw [this]; rfl
              · rw [World.cell?_setCells_out _ _ _ _ _ (fun _ _ => by simp; omega)]; exact (hthere j hj').1
            · rw [splice_get cs vs o j hle] at hj
              by_cases h1 : j < o
              · rw [if_pos h1] at hj
                rw [World.cell?_setCells_out _ _ _ _ _ (fun _ _ => by simp; omega)]; exact hc j v hj
              · rw [if_neg h1] at hj
                by_cases h2 : j < o + vs.length
                · rw [if_pos h2] at hj
                  obtain ⟨v', g1, g2⟩ := hv.get hj
                  have hjl : j - o < vs'.length := by omega
                  have := World.cell?_setCells_in i.blk vs' (o + i.sh) w (fun q hq => (hin q hq).1) (j - o) hjl
                  rw [show o + i.sh + (j - o) = j + i.sh by omega] at this
                  refine ⟨v', ?_, g2⟩
                  rw [this, ← g1]; simp [hjl]
                · rw [if_neg h2] at hj
                  rw [World.cell?_setCells_out _ _ _ _ _ (fun _ _ => by simp; omega)]; exact hc j v hj
          · rw [Array.getElem?_setIfInBounds_ne (Ne.symm ecb), kill_get] at hcx
            split at hcx
            · cases hcx; trivial
            · rename_i hnk
              by_cases ek : k.blk = i.blk
              · -- another name of the same memory: it is dead
                have hlt := r.dom c k hk
                by_cases hd : x.isDead = true
                · cases x <;> simp [Blk.isDead] at hd; trivial
                · have hd : x.isDead = false := by simpa using hd
                  rcases r.sep c b k i x _ hk hb ek ecb hcx hx hd rfl with ⟨g1, _⟩ | ⟨_, g2, _⟩
                  · simp [Blk.ancs] at g1
                    exact absurd ⟨g1, hlt⟩ hnk
                  · simp [Blk.isLive] at g2
              · exact (r.blk c k x hk hcx).keep (.refl _) (heap_setCells_other _ _ _ _ _ ek)
        · intro c d k l x y hk hl' hkl hne hcx hdy hxd hyd
          have back : ∀ {c x}, ((kill h anc).setIfInBounds b (.cells (cs.take o ++ vs ++ cs.drop (o + vs.length)) es true []))[c]? = some x → x.isDead = false → c ≠ b → h[c]? = some x ∧ ¬ (c ∈ anc ∧ c < h.size) := by
            intro c x hcx hxd hcb
            rw [Array.getElem?_setIfInBounds_ne (Ne.symm hcb), kill_get] at hcx
            split at hcx
            · cases hcx; simp [Blk.isDead] at hxd
            · rename_i hn; exact ⟨hcx, hn⟩
          by_cases hcb : c = b
          · subst hcb
            obtain ⟨hdy', hn⟩ := back hdy hyd (Ne.symm hne)
            rw [hb] at hk; cases hk
            rcases r.sep c d i l _ y hb hl' hkl hne hx hdy' rfl hyd with ⟨_, g, _⟩ | ⟨g, _⟩
            · simp [Blk.isLive] at g
            · simp [Blk.ancs] at g; exact absurd ⟨g, r.dom d l hl'⟩ hn
          · by_cases hdb : d = b
            · subst hdb
              obtain ⟨hcx', hn⟩ := back hcx hxd hcb
              rw [hb] at hl'; cases hl'
              rcases r.sep c d k i x _ hk hb hkl hne hcx' hx hxd rfl with ⟨g, _⟩ | ⟨_, g, _⟩
              · simp [Blk.ancs] at g; exact absurd ⟨g, r.dom c k hk⟩ hn
              · simp [Blk.isLive] at g
            · exact r.sep c d k l x y hk hl' hkl hne (back hcx hxd hcb).1 (back hdy hyd hdb).1 hxd hyd
        · intro c k x a hk hcx ha
          by_cases ecb : c = b
          · subst ecb
            rw [Array.getElem?_setIfInBounds_self_of_lt (by simp [kill_size]; exact hbs)] at hcx
            cases hcx; simp [Blk.ancs] at ha
          · rw [Array.getElem?_setIfInBounds_ne (Ne.symm ecb), kill_get] at hcx
            split at hcx
            · cases hcx; simp [Blk.ancs] at ha
            · exact r.anc c k x a hk hcx ha
      · refine ⟨.refl _, by simp [kill_size], by rw [size_setCells]; exact Nat.le_refl _, ?_, ?_, fun _ _ h => .inl h, ?_, io_setCells _ _ _ _⟩
        · intro c hcl hn
          have hcb : c ≠ b := fun e => by subst e; rw [hb] at hn; cases hn
          rw [Array.getElem?_setIfInBounds_ne (Ne.symm hcb), kill_get, if_neg]
          intro hm
          exact r.anc b i _ c hb hx (by simpa [Blk.ancs] using hm.1) hn
        · intro b' hb' hl'
          apply heap_setCells_other
          intro e; subst e
          have := hl' b i _ hb rfl hx
          simp [Blk.isLive] at this
        · intro c x x' hcl h1 h2 h3
          by_cases ecb : c = b
          · subst ecb; rw [hx] at h1; cases h1; simp [Blk.isLive] at h3
          · rw [Array.getElem?_setIfInBounds_ne (Ne.symm ecb), kill_get] at h2
            split at h2
            · cases h2; rfl
            · rw [h1] at h2; cases h2; exact h3
    · cases e
  · cases e


/-! ### making -/
theorem heap_alloc' (w : World) (o : Obj) : (w.alloc o).heap = w.heap.push o := rfl
theorem heap_alloc_new (w : World) (o : Obj) : (w.alloc o).heap[w.heap.size]? = some o := by rw [heap_alloc']; simp

def Ren.put (ρ : Ren) (n : Nat) (i : Info) : Ren := fun b => if b = n then some i else ρ b

theorem Rel.fresh {ρ : Ren} {h : H} {w : World} (r : Rel ρ h w) : ρ h.size = none := by
  cases e : ρ h.size with
  | none => rfl
  | some i => exact absurd (r.dom _ _ e) (Nat.lt_irrefl _)

theorem Rel.put_le {ρ : Ren} {h : H} {w : World} (r : Rel ρ h w) (i : Info) : ρ.le (ρ.put h.size i) := fun b j hb => by
  have : b ≠ h.size := Nat.ne_of_lt (r.dom _ _ hb)
  simp [Ren.put, this, hb]

theorem push_rel {ρ : Ren} {h : H} {w : World} (r : Rel ρ h w) (o : Obj) (x : Blk) (i : Info) (hi : i.blk = w.heap.size) (hx : BR (ρ.put h.size i) i (w.alloc o) x) (ha : ∀ a ∈ x.ancs, ρ a ≠ none) :
    Rel (ρ.put h.size i) (h.push x) (w.alloc o) ∧ Ext ρ h w (ρ.put h.size i) (h.push x) (w.alloc o) := by
  have hle := r.put_le i
  have hold : ∀ j, j < w.heap.size → (w.alloc o).heap[j]? = w.heap[j]? := fun j hj => by
    rw [heap_alloc', Array.getElem?_push, if_neg (Nat.ne_of_lt hj)]
  have hsz : (w.alloc o).heap.size = w.heap.size + 1 := by rw [heap_alloc']; simp
  have back : ∀ {b k}, ρ.put h.size i b = some k → (b = h.size ∧ k = i) ∨ (b ≠ h.size ∧ ρ b = some k) := by
    intro b k hb
    unfold Ren.put at hb
    split at hb
    · cases hb; exact .inl ⟨‹_›, rfl⟩
    · exact .inr ⟨‹_›, hb⟩
  have hget : ∀ {b : Nat}, b ≠ h.size → (h.push x)[b]? = h[b]? := by
    intro b hb
    rw [Array.getElem?_push, if_neg hb]
  have hgetn : (h.push x)[h.size]? = some x := by simp
  refine ⟨⟨?_, ?_, ?_, ?_, ?_⟩, ⟨hle, by simp, by omega, ?_, ?_, ?_, ?_, ⟨rfl, rfl⟩⟩⟩
  · intro b k hb
    rcases back hb with ⟨rfl, _⟩ | ⟨_, h1⟩
    · simp
    · have := r.dom _ _ h1; simp; omega
  · intro b k hb
    rcases back hb with ⟨_, rfl⟩ | ⟨_, h1⟩
    · omega
    · have := r.bnd _ _ h1; omega
  · intro b k y hb hy
    rcases back hb with ⟨rfl, rfl⟩ | ⟨hne, h1⟩
    · rw [hgetn] at hy; cases hy; exact hx
    · rw [hget hne] at hy
      exact (r.blk b k y h1 hy).keep hle (hold _ (r.bnd _ _ h1))
  · intro b c k l y z hb hc hkl hne hy hz hyd hzd
    rcases back hb with ⟨rfl, rfl⟩ | ⟨hb1, hb2⟩
    · rcases back hc with ⟨rfl, rfl⟩ | ⟨hc1, hc2⟩
      · exact absurd rfl hne
      · have := r.bnd _ _ hc2; omega
    · rcases back hc with ⟨rfl, rfl⟩ | ⟨hc1, hc2⟩
      · have := r.bnd _ _ hb2; omega
      · rw [hget hb1] at hy; rw [hget hc1] at hz
        exact r.sep b c k l y z hb2 hc2 hkl hne hy hz hyd hzd
  · intro b k y a hb hy hay
    have : ρ a ≠ none := by
      rcases back hb with ⟨rfl, rfl⟩ | ⟨hb1, hb2⟩
      · rw [hgetn] at hy; cases hy; exact ha a hay
      · rw [hget hb1] at hy; exact r.anc b k y a hb2 hy hay
    cases e : ρ a with
    | none => exact absurd e this
    | some q => rw [hle a q e]; simp
  · intro b hb hn; exact hget (Nat.ne_of_lt hb)
  · intro b' hb' _; exact hold b' hb'
  · intro b k hb
    rcases back hb with ⟨rfl, rfl⟩ | ⟨_, h1⟩
    · exact .inr ⟨Nat.le_refl _, .inl (by omega)⟩
    · exact .inl h1
  · intro b y y' hb h1 h2 h3
    rw [hget (Nat.ne_of_lt hb), h1] at h2; cases h2; exact h3

theorem Rel.drew {ρ : Ren} {h : H} {w : World} (r : Rel ρ h w) : Rel ρ h w.drew :=
  ⟨r.dom, r.bnd, fun b i x hb hx => (r.blk b i x hb hx).keep (.refl _) rfl, r.sep, r.anc⟩
theorem Ext.drew {ρ ρ' : Ren} {h h' : H} {w w' : World} (r : Ext ρ h w ρ' h' w') : Ext ρ h w ρ' h' w'.drew :=
  ⟨r.le, r.hsz, r.wsz, r.af, r.cf, r.nw, r.dull, r.io⟩
theorem Rel.drawn {ρ : Ren} {h : H} {w : World} (r : Rel ρ h w) (n : Nat) : Rel ρ h { w with drawn := n } :=
  ⟨r.dom, r.bnd, fun b i x hb hx => (r.blk b i x hb hx).keep (.refl _) rfl, r.sep, r.anc⟩

/-- A new row of cells: the known ones come first. -/
theorem row_rel {ρ : Ren} {h : H} {w : World} (r : Rel ρ h w) (cs : List Value) (cs' : Array Value) (e : TypeId) (es : Nat) (lv : Bool) (anc : List Nat) (ha : ∀ a ∈ anc, ρ a ≠ none) (room : Nat)
    (hv : VRs ρ cs (cs'.toList.take cs.length)) (hl : cs.length + room ≤ cs'.size) (i : Info) (hi : i = ⟨w.heap.size, 0, es, room⟩) :
    Rel (ρ.put h.size i) (h.push (.cells cs es lv anc)) (w.alloc (.cells cs' e)) ∧ Ext ρ h w (ρ.put h.size i) (h.push (.cells cs es lv anc)) (w.alloc (.cells cs' e)) := by
  subst hi
  have hnew := heap_alloc_new w (.cells cs' e)
  refine push_rel r _ _ _ rfl ⟨rfl, fun j hj => ?_, fun j v hj => ?_⟩ ha
  · have hjl : j < cs'.size := by simp at hj; omega
    constructor
    · simp only [World.cell?, hnew]; simp [hjl]
    · simp only [World.frozen?, hnew]; simp
  · obtain ⟨v', h1, h2⟩ := hv.get hj
    have hjl : j < cs.length := (List.getElem?_eq_some_iff.1 hj).1
    rw [List.getElem?_take, if_pos hjl] at h1
    refine ⟨v', ?_, h2.mono (r.put_le _)⟩
    simp only [World.cell?, hnew]
    simpa using h1

/-- A row that grows in its place: the old one is retired (h1), a new name of the same memory is made. -/
theorem grow_rel {ρ : Ren} {h h1 : H} {w : World} (r : Rel ρ h w) {b : Nat} {i : Info} (hb : ρ b = some i) {cs : List Value} {es : Nat} {anc anc' : List Nat} (hx : h[b]? = some (.cells cs es true anc))
    {o l : Nat} (ho : o + l ≤ cs.length) {vs vs' : List Value} (hv : VRs ρ vs vs') (hone : vs.all oneCell = true) (hroom : o + l + vs.length ≤ cs.length + i.room)
    (hsz : h1.size = h.size) (R1 : ∀ c x, h1[c]? = some x → x.isDead = true ∨ (c ≠ b ∧ h[c]? = some x) ∨ (c = b ∧ x = .cells cs es false anc ∧ o + l = cs.length))
    (R2 : ∀ c, ρ c = none → h1[c]? = h[c]?) (R4 : ∀ a ∈ anc', a = b ∨ a ∈ anc) (R5 : ∀ c x, h1[c]? = some x → x.isDead = false → c = b ∨ c ∈ anc → c < h.size → c ∈ anc' ∧ o + l = cs.length)
    (room : Nat) (hr2 : o + l + vs.length + room ≤ cs.length + i.room) (i' : Info) (hi' : i' = ⟨i.blk, i.sh + o, es, room⟩) :
    (∀ j, j < vs'.length → (w.cell? ⟨i.blk, o + i.sh + l + j, none⟩).isSome = true) ∧ (∀ j, j < vs'.length → w.frozen? ⟨i.blk, o + i.sh + l + j, none⟩ = false) ∧ (∀ u ∈ vs', u.oneCell' = true) ∧
    Rel (ρ.put h.size i') (h1.push (.cells ((cs.drop o).take l ++ vs) es true anc')) (w.setCells i.blk (o + i.sh + l) vs') ∧
    Ext ρ h w (ρ.put h.size i') (h1.push (.cells ((cs.drop o).take l ++ vs) es true anc')) (w.setCells i.blk (o + i.sh + l) vs') := by
  subst hi'
  obtain ⟨he, hthere, hc⟩ := r.blk b i _ hb hx
  have hl := hv.length
  have hin : ∀ j, j < vs'.length → (w.cell? ⟨i.blk, o + i.sh + l + j, none⟩).isSome = true ∧ w.frozen? ⟨i.blk, o + i.sh + l + j, none⟩ = false := fun j hj => have q := hthere (o + i.sh + l + j) (by omega); ⟨q.1, q.2 rfl⟩
  have hle := r.put_le ⟨i.blk, i.sh + o, es, room⟩
  have back : ∀ {c k}, ρ.put h.size ⟨i.blk, i.sh + o, es, room⟩ c = some k → (c = h.size ∧ k = ⟨i.blk, i.sh + o, es, room⟩) ∨ (c ≠ h.size ∧ ρ c = some k) := by
    intro c k hk
    unfold Ren.put at hk
    split at hk
    · cases hk; exact .inl ⟨‹_›, rfl⟩
    · exact .inr ⟨‹_›, hk⟩
  have hget : ∀ {c : Nat} {x : Blk}, c ≠ h.size → (h1.push x)[c]? = h1[c]? := by
    intro c x hcn
    rw [Array.getElem?_push, if_neg (by omega)]
  have hgetn : ∀ {x : Blk}, (h1.push x)[h.size]? = some x := by intro x; rw [← hsz]; simp
  have hlen : ((cs.drop o).take l ++ vs).length = l + vs.length := by simp; omega
  -- another old name of the same memory that is not dead: one of the ancestors
  have same : ∀ {c k x}, ρ c = some k → h[c]? = some x → x.isDead = false → k.blk = i.blk → c ≠ b → c ∈ anc ∧ x.isLive = false ∧ x.len + k.sh ≤ cs.length + i.sh := by
    intro c k x hk hcx hd ek hcb
    rcases r.sep c b k i x _ hk hb ek hcb hcx hx hd rfl with ⟨g1, g2, g3⟩ | ⟨_, g2, _⟩
    · exact ⟨g1, g2, g3⟩
    · simp [Blk.isLive] at g2
  refine ⟨fun j hj => (hin j hj).1, fun j hj => (hin j hj).2, hv.one hone, ⟨?_, ?_, ?_, ?_, ?_⟩, ⟨hle, by simp [hsz], by rw [size_setCells]; exact Nat.le_refl _, ?_, ?_, ?_, ?_, io_setCells _ _ _ _⟩⟩
  · intro c k hk
    rcases back hk with ⟨rfl, _⟩ | ⟨_, h2⟩
    · simp [hsz]
    · have := r.dom _ _ h2; simp [hsz]; omega
  · intro c k hk
    rw [size_setCells]
    rcases back hk with ⟨_, rfl⟩ | ⟨_, h2⟩
    · exact r.bnd b i hb
    · exact r.bnd _ _ h2
  · intro c k x hk hcx
    rcases back hk with ⟨rfl, rfl⟩ | ⟨hne, hk⟩
    · rw [hgetn] at hcx; cases hcx
      refine ⟨rfl, fun j hj => ?_, fun j v hj => ?_⟩
      · rw [hlen] at hj
        have hj' : j < cs.length + i.sh + i.room := by simp at hj; omega
        rw [World.frozen?_setCells]
        refine ⟨?_, (hthere j hj').2⟩
        by_cases hlo : o + i.sh + l ≤ j ∧ j < o + i.sh + l + vs'.length
        · have := World.cell?_setCells_in i.blk vs' (o + i.sh + l) w (fun q hq => (hin q hq).1) (j - (o + i.sh + l)) (by omega)
          rw [show o + i.sh + l + (j - (o + i.sh + l)) = j by omega] at this
          simp only at this ⊢
          rw [this]; rfl
        · rw [World.cell?_setCells_out _ _ _ _ _ (fun _ _ => by simp; omega)]; exact (hthere j hj').1
      · by_cases h2 : j < l
        · rw [List.getElem?_append_left (by simp; omega), List.getElem?_take, if_pos h2, List.getElem?_drop] at hj
          obtain ⟨v', g1, g2⟩ := hc (o + j) v hj
          refine ⟨v', ?_, g2.mono hle⟩
          rw [World.cell?_setCells_out _ _ _ _ _ (fun _ _ => by simp; omega)]
          rw [show j + (i.sh + o) = o + j + i.sh by omega]; exact g1
        · rw [List.getElem?_append_right (by simp; omega)] at hj
          have e2 : ((cs.drop o).take l).length = l := by simp; omega
          rw [e2] at hj
          obtain ⟨v', g1, g2⟩ := hv.get hj
          have hjl : j - l < vs'.length := (List.getElem?_eq_some_iff.1 g1).1
          have := World.cell?_setCells_in i.blk vs' (o + i.sh + l) w (fun q hq => (hin q hq).1) (j - l) hjl
          rw [show o + i.sh + l + (j - l) = j + (i.sh + o) by omega] at this
          refine ⟨v', ?_, g2.mono hle⟩
          simp only at this ⊢
          rw [this, ← g1]; simp [hjl]
    · rw [hget hne] at hcx
      rcases R1 c x hcx with hd | ⟨hcb, hcx'⟩ | ⟨rfl, rfl, hend⟩
      · cases x <;> simp [Blk.isDead] at hd; trivial
      · by_cases ek : k.blk = i.blk
        · by_cases hd : x.isDead = true
          · cases x <;> simp [Blk.isDead] at hd; trivial
          · have hd : x.isDead = false := by simpa using hd
            obtain ⟨g1, g2, g3⟩ := same hk hcx' hd ek hcb
            have hend := (R5 c x hcx hd (.inr g1) (r.dom _ _ hk)).2
            cases x with
            | dead => trivial
            | map m lv =>
              -- a map does not lie where a row lies
              obtain ⟨es', clock, q1, _⟩ := r.blk c k _ hk hcx'
              by_cases hz : 0 < cs.length + i.sh + i.room
              · have := (hthere 0 hz).1
                rw [← ek] at this
                simp [World.cell?, q1] at this
              · have e0 : vs' = [] := List.eq_nil_of_length_eq_zero (by omega)
                subst e0
                exact (r.blk c k _ hk hcx').mono hle
            | cells cs2 es2 lv2 anc2 =>
              obtain ⟨q1, q2, q3⟩ := r.blk c k _ hk hcx'
              simp only [Blk.len] at g3
              refine ⟨q1, fun j hj => ?_, fun j v hj => ?_⟩
              · rw [World.frozen?_setCells]
                refine ⟨?_, (q2 j hj).2⟩
                by_cases hlo : o + i.sh + l ≤ j ∧ j < o + i.sh + l + vs'.length
                · have := World.cell?_setCells_in i.blk vs' (o + i.sh + l) w (fun q hq => (hin q hq).1) (j - (o + i.sh + l)) (by omega)
                  rw [show o + i.sh + l + (j - (o + i.sh + l)) = j by omega] at this
                  rw [ek, this]; rfl
                · rw [World.cell?_setCells_out _ _ _ _ _ (fun _ _ => by simp; omega)]; exact (q2 j hj).1
              · obtain ⟨v', q4, q5⟩ := q3 j v hj
                have hjl : j < cs2.length := (List.getElem?_eq_some_iff.1 hj).1
                refine ⟨v', ?_, q5.mono hle⟩
                rw [World.cell?_setCells_out _ _ _ _ _ (fun _ _ => by simp; omega)]; exact q4
        · exact (r.blk c k x hk hcx').keep hle (heap_setCells_other _ _ _ _ _ ek)
      · rw [hb] at hk; cases hk
        refine ⟨he, fun j hj => ?_, fun j v hj => ?_⟩
        · rw [World.frozen?_setCells]
          refine ⟨?_, fun _ => (hthere j hj).2 rfl⟩
          by_cases hlo : o + i.sh + l ≤ j ∧ j < o + i.sh + l + vs'.length
          · have := World.cell?_setCells_in i.blk vs' (o + i.sh + l) w (fun q hq => (hin q hq).1) (j - (o + i.sh + l)) (by omega)
            rw [show o + i.sh + l + (j - (o + i.sh + l)) = j by omega] at this
            rw [this]; rfl
          · rw [World.cell?_setCells_out _ _ _ _ _ (fun _ _ => by simp; omega)]; exact (hthere j hj).1
        · obtain ⟨v', q4, q5⟩ := hc j v hj
          have hjl : j < cs.length := (List.getElem?_eq_some_iff.1 hj).1
          refine ⟨v', ?_, q5.mono hle⟩
          rw [World.cell?_setCells_out _ _ _ _ _ (fun _ _ => by simp; omega)]; exact q4
  · -- apart
    have key : ∀ {c k x}, ρ c = some k → h1[c]? = some x → x.isDead = false → k.blk = i.blk → c ∈ anc' ∧ x.isLive = false ∧ x.len + k.sh ≤ l + vs.length + (i.sh + o) := by
      intro c k x hk hcx hd ek
      rcases R1 c x hcx with hd' | ⟨hcb, hcx'⟩ | ⟨rfl, rfl, hend⟩
      · rw [hd] at hd'; cases hd'
      · obtain ⟨g1, g2, g3⟩ := same hk hcx' hd ek hcb
        obtain ⟨g4, g5⟩ := R5 c x hcx hd (.inr g1) (r.dom _ _ hk)
        exact ⟨g4, g2, by omega⟩
      · rw [hb] at hk; cases hk
        obtain ⟨g4, g5⟩ := R5 c _ hcx hd (.inl rfl) (r.dom _ _ hb)
        exact ⟨g4, rfl, by simp only [Blk.len]; omega⟩
    intro c d k q x y hk hq hkq hne hcx hdy hxd hyd
    rcases back hk with ⟨rfl, rfl⟩ | ⟨hc1, hc2⟩
    · rw [hgetn] at hcx; cases hcx
      rcases back hq with ⟨rfl, rfl⟩ | ⟨hd1, hd2⟩
      · exact absurd rfl hne
      · rw [hget hd1] at hdy
        obtain ⟨g1, g2, g3⟩ := key hd2 hdy hyd hkq.symm
        exact .inr ⟨g1, g2, by rw [show (Blk.cells ((cs.drop o).take l ++ vs) es true anc').len = l + vs.length from hlen]; exact g3⟩
    · rw [hget hc1] at hcx
      rcases back hq with ⟨rfl, rfl⟩ | ⟨hd1, hd2⟩
      · rw [hgetn] at hdy; cases hdy
        obtain ⟨g1, g2, g3⟩ := key hc2 hcx hxd hkq
        exact .inl ⟨g1, g2, by rw [show (Blk.cells ((cs.drop o).take l ++ vs) es true anc').len = l + vs.length from hlen]; exact g3⟩
      · rw [hget hd1] at hdy
        -- two old names
        have old : ∀ {c : Nat} {x : Blk}, h1[c]? = some x → x.isDead = false → ∃ x0 : Blk, h[c]? = some x0 ∧ x0.isDead = false ∧ x0.ancs = x.ancs ∧ x0.len = x.len ∧ (x0.isLive = false → x.isLive = false) := by
          intro c x hcx hxd
          rcases R1 c x hcx with hd' | ⟨_, hcx'⟩ | ⟨rfl, rfl, _⟩
          · rw [hxd] at hd'; cases hd'
          · exact ⟨x, hcx', hxd, rfl, rfl, id⟩
          · exact ⟨_, hx, rfl, rfl, rfl, fun _ => rfl⟩
        obtain ⟨x0, a1, a2, a3, a4, a5⟩ := old hcx hxd
        obtain ⟨y0, b1, b2, b3, b4, b5⟩ := old hdy hyd
        rcases r.sep c d k q x0 y0 hc2 hd2 hkq hne a1 b1 a2 b2 with ⟨g1, g2, g3⟩ | ⟨g1, g2, g3⟩
        · exact .inl ⟨by rw [← b3]; exact g1, a5 g2, by rw [← a4, ← b4]; exact g3⟩
        · exact .inr ⟨by rw [← a3]; exact g1, b5 g2, by rw [← a4, ← b4]; exact g3⟩
  · intro c k x a hk hcx ha
    have : ρ a ≠ none := by
      have anc_b : ∀ a ∈ anc, ρ a ≠ none := fun a ha => r.anc b i _ a hb hx ha
      rcases back hk with ⟨rfl, rfl⟩ | ⟨hc1, hc2⟩
      · rw [hgetn] at hcx; cases hcx
        rcases R4 a ha with rfl | h2
        · rw [hb]; simp
        · exact anc_b a h2
      · rw [hget hc1] at hcx
        rcases R1 c x hcx with hd' | ⟨_, hcx'⟩ | ⟨rfl, rfl, _⟩
        · cases x <;> simp [Blk.isDead, Blk.ancs] at hd' ha
        · exact r.anc c k x a hc2 hcx' ha
        · exact anc_b a ha
    cases e : ρ a with
    | none => exact absurd e this
    | some q => rw [hle a q e]; simp
  · intro c hcl hn
    rw [hget (Nat.ne_of_lt hcl)]; exact R2 c hn
  · intro b' hb' hl'
    apply heap_setCells_other
    intro e; subst e
    have := hl' b i _ hb rfl hx
    simp [Blk.isLive] at this
  · intro c k hk
    rcases back hk with ⟨rfl, rfl⟩ | ⟨_, h2⟩
    · exact .inr ⟨Nat.le_refl _, .inr ⟨b, i, _, hb, rfl, hx, rfl⟩⟩
    · exact .inl h2
  · intro c x x' hcl h2 h3 h4
    rw [hget (Nat.ne_of_lt hcl)] at h3
    rcases R1 c x' h3 with hd' | ⟨_, hcx'⟩ | ⟨rfl, rfl, _⟩
    · cases x' <;> simp [Blk.isDead] at hd'; rfl
    · rw [h2] at hcx'; cases hcx'; exact h4
    · rfl

/-- A row is closed: it may be read, no more. -/
theorem seal_rel {ρ : Ren} {h : H} {w : World} (r : Rel ρ h w) {b : Nat} {i : Info} (hb : ρ b = some i) {cs : List Value} {es : Nat} {anc : List Nat} (hx : h[b]? = some (.cells cs es true anc)) :
    Rel ρ (h.setIfInBounds b (.cells cs es false anc)) w ∧ Ext ρ h w ρ (h.setIfInBounds b (.cells cs es false anc)) w := by
  have hbs := r.dom b i hb
  have old : ∀ {c : Nat} {x : Blk}, (h.setIfInBounds b (.cells cs es false anc))[c]? = some x → ∃ x0 : Blk, h[c]? = some x0 ∧ x0.isDead = x.isDead ∧ x0.ancs = x.ancs ∧ x0.len = x.len ∧ (x0.isLive = false → x.isLive = false) ∧ (c ≠ b → x = x0) ∧ (c = b → x = .cells cs es false anc ∧ x0 = .cells cs es true anc) := by
    intro c x hc
    by_cases hcb : c = b
    · subst hcb
      rw [Array.getElem?_setIfInBounds_self_of_lt hbs] at hc
      cases hc
      exact ⟨_, hx, rfl, rfl, rfl, fun _ => rfl, fun hn => absurd rfl hn, fun _ => ⟨rfl, rfl⟩⟩
    · rw [Array.getElem?_setIfInBounds_ne (Ne.symm hcb)] at hc
      exact ⟨x, hc, rfl, rfl, rfl, id, fun _ => rfl, fun hn => absurd hn hcb⟩
  refine ⟨⟨fun c k hk => by simp; exact r.dom c k hk, r.bnd, ?_, ?_, ?_⟩, ⟨.refl _, by simp, Nat.le_refl _, ?_, fun _ _ _ => rfl, fun _ _ h => .inl h, ?_, ⟨rfl, rfl⟩⟩⟩
  · intro c k x hk hc
    obtain ⟨x0, h1, _, _, _, _, h2, h3⟩ := old hc
    by_cases hcb : c = b
    · obtain ⟨rfl, rfl⟩ := h3 hcb
      have q : BR ρ k w (.cells cs es true anc) := r.blk c k _ hk h1
      exact ⟨q.1, fun j hj => ⟨(q.2.1 j hj).1, nofun⟩, q.2.2⟩
    · rw [h2 hcb]; exact r.blk c k _ hk h1
  · intro c d k l x y hk hl hkl hne hc hd hxd hyd
    obtain ⟨x0, a1, a2, a3, a4, a5, _⟩ := old hc
    obtain ⟨y0, b1, b2, b3, b4, b5, _⟩ := old hd
    rcases r.sep c d k l x0 y0 hk hl hkl hne a1 b1 (a2.trans hxd) (b2.trans hyd) with ⟨g1, g2, g3⟩ | ⟨g1, g2, g3⟩
    · exact .inl ⟨b3 ▸ g1, a5 g2, a4 ▸ b4 ▸ g3⟩
    · exact .inr ⟨a3 ▸ g1, b5 g2, a4 ▸ b4 ▸ g3⟩
  · intro c k x a hk hc ha
    obtain ⟨x0, a1, _, a3, _⟩ := old hc
    exact r.anc c k x0 a hk a1 (a3 ▸ ha)
  · intro c hcl hn
    have hcb : c ≠ b := fun e => by subst e; rw [hb] at hn; cases hn
    rw [Array.getElem?_setIfInBounds_ne (Ne.symm hcb)]
  · intro c x x' hcl h1 h2 h3
    obtain ⟨x0, a1, _, _, _, a5, _⟩ := old h2
    rw [h1] at a1; cases a1; exact a5 h3

theorem kill_rel {ρ : Ren} {h : H} {w : World} (r : Rel ρ h w) (l : List Nat) (hl : ∀ a ∈ l, ρ a ≠ none) : Rel ρ (kill h l) w ∧ Ext ρ h w ρ (kill h l) w := by
  have back : ∀ {c : Nat} {x : Blk}, (kill h l)[c]? = some x → x = .dead ∨ h[c]? = some x := by
    intro c x hc
    rw [kill_get] at hc
    split at hc
    · cases hc; exact .inl rfl
    · exact .inr hc
  refine ⟨⟨fun c k hk => by rw [kill_size]; exact r.dom c k hk, r.bnd, ?_, ?_, ?_⟩, ⟨.refl _, by rw [kill_size]; exact Nat.le_refl _, Nat.le_refl _, ?_, fun _ _ _ => rfl, fun _ _ h => .inl h, ?_, ⟨rfl, rfl⟩⟩⟩
  · intro c k x hk hc
    rcases back hc with rfl | h1
    · trivial
    · exact r.blk c k x hk h1
  · intro c d k q x y hk hq hkl hne hc hd hxd hyd
    rcases back hc with rfl | h1
    · cases hxd
    · rcases back hd with rfl | h2
      · cases hyd
      · exact r.sep c d k q x y hk hq hkl hne h1 h2 hxd hyd
  · intro c k x a hk hc ha
    rcases back hc with rfl | h1
    · cases ha
    · exact r.anc c k x a hk h1 ha
  · intro c _ hn
    rw [kill_get, if_neg]
    rintro ⟨hm, _⟩
    exact hl c hm hn
  · intro c x x' _ h1 h2 h3
    rcases back h2 with rfl | h4
    · rfl
    · rw [h1] at h4; cases h4; exact h3

end Go.Ev

/- Ev2: the compact operations and what they answer on the abstract heap. -/
namespace Go.Ev

inductive Cv where
  | int (k : IntKind)
  | same
  | toBytes
  | toString
  deriving Inhabited

/-- The kind of a cell that may be compared. -/
inductive CK where
  | int | str | bool
  deriving Inhabited

inductive EK where
  | bool | ptr | slice | map | func
  deriving Inhabited

inductive AOp where
  | mv (x : Operand)
  | pick (c a b : Operand)
  | alloc (zero : List Value)
  | box (x : Operand)
  | build (zero : List Value) (parts : List (Nat × Nat × Operand))
  | mkSlice (es len : Nat) (zero : List Value) (parts : List (Nat × Nat × Operand))
  | load1 (a : Operand)
  | loadN (n : Nat) (a : Operand)
  | store (n : Nat) (a x : Operand)
  | nilCheck (x : Operand)
  | bin (op : BinOp) (x y : Operand)
  | eqNil (k : EK) (neg : Bool) (x y : Operand)
  | eqAgg (neg : Bool) (ks : List CK) (x y : Operand)
  | un (op : UnOp) (x : Operand)
  | conv (c : Cv) (x : Operand)
  | func (fn : Fn) (first captured : List Operand)
  | mkMap
  | makeSlice (es bytes : Nat) (zero : List Value) (l c : Operand)
  | slice (size : Nat) (x : Operand) (lo hi : Option Operand)
  | sliceStr (x : Operand) (lo hi : Option Operand)
  | fieldAddr (x : Operand) (off : Nat)
  | field (x : Operand) (off : Nat) (n : Option Nat)
  | indexAddr (size : Nat) (x i : Operand)
  | indexStr (x i : Operand)
  | lookup (ck : CK) (zero : Value) (x k : Operand) (ok : Bool)
  | mapUpd (ck : CK) (m k v : Operand)
  | extract (x : Operand) (i : Nat)
  | lenStr (x : Operand)
  | lenSlice (x : Operand)
  | lenMap (x : Operand)
  | append (str : Bool) (es bytes : Nat) (s x : Operand)
  | copy (str : Bool) (es : Nat) (d s : Operand)
  | delete (ck : CK) (m k : Operand)
  | clear (zero : List Value) (x : Operand)
  | minmax (isMax : Bool) (x y : Operand)
  deriving Inhabited

/-! ### pure answers -/
def intBin : BinOp → IntKind → Int → Int → Option Value
  | .add, k, a, b => some (.int k (k.wrap (a + b)))
  | .sub, k, a, b => some (.int k (k.wrap (a - b)))
  | .mul, k, a, b => some (.int k (k.wrap (a * b)))
  | .quo, k, a, b => if b = 0 then none else some (.int k (k.wrap (a.tdiv b)))
  | .rem, k, a, b => if b = 0 then none else some (.int k (a.tmod b))
  | .and, k, a, b => some (.int k (k.wrap (BitVec.ofInt k.bits a &&& BitVec.ofInt k.bits b).toNat))
  | .or, k, a, b => some (.int k (k.wrap (BitVec.ofInt k.bits a ||| BitVec.ofInt k.bits b).toNat))
  | .xor, k, a, b => some (.int k (k.wrap (BitVec.ofInt k.bits a ^^^ BitVec.ofInt k.bits b).toNat))
  | .andNot, k, a, b => some (.int k (k.wrap (BitVec.ofInt k.bits a &&& ~~~ BitVec.ofInt k.bits b).toNat))
  | .eql, _, a, b => some (.bool (a == b))
  | .neq, _, a, b => some (.bool (a != b))
  | .lss, _, a, b => some (.bool (a < b))
  | .leq, _, a, b => some (.bool (a ≤ b))
  | .gtr, _, a, b => some (.bool (a > b))
  | .geq, _, a, b => some (.bool (a ≥ b))
  | _, _, _, _ => none

def intShift : BinOp → IntKind → Int → Int → Option Value
  | .shl, k, a, b => if b < 0 then none else some (.int k (k.wrap (a * 2 ^ min b.toNat k.bits)))
  | .shr, k, a, b => if b < 0 then none else some (.int k (a.fdiv (2 ^ min b.toNat k.bits)))
  | _, _, _, _ => none

def strBin : BinOp → ByteArray → ByteArray → Option Value
  | .add, x, y => if ((x.size + y.size : Nat) : Int) > 9223372036854775807 then none else some (.string (x ++ y))
  | .eql, x, y => some (.bool (x == y))
  | .neq, x, y => some (.bool (x != y))
  | .lss, x, y => some (.bool (Op.bytesLess x.toList y.toList))
  | .leq, x, y => some (.bool (Op.bytesLess x.toList y.toList || x == y))
  | .gtr, x, y => some (.bool !(Op.bytesLess x.toList y.toList || x == y))
  | .geq, x, y => some (.bool !Op.bytesLess x.toList y.toList)
  | _, _, _ => none

/-- '==' of values that are no numbers, texts or structs: of bools, and where the one is nil. -/
def nilEq : EK → Value → Value → Option Bool
  | .bool, .bool a, .bool b => some (a == b)
  | .ptr, .pointer none, .pointer b => some b.isNone
  | .ptr, .pointer (some _), .pointer none => some false
  | .slice, .slice none _ _, .slice b _ _ => some b.isNone
  | .slice, .slice (some _) _ _, .slice none _ _ => some false
  | .map, .map none, .map b => some b.isNone
  | .map, .map (some _), .map none => some false
  | .func, .nilFunc, .nilFunc => some true
  | .func, .nilFunc, .func _ _ _ => some false
  | .func, .func _ _ _, .nilFunc => some false
  | _, _, _ => none

def aBin (op : BinOp) (x y : Value) : Option Value :=
  match x, y with
  | .int k a, .int k' b =>
    match op with
    | .shl => intShift .shl k a b
    | .shr => intShift .shr k a b
    | op => if k = k' then intBin op k a b else none
  | .string a, .string b => strBin op a b
  | _, _ => none

/-- One cell of a struct against the other's. -/
def cellEq : CK → Value → Value → Option Bool
  | .int, .int k a, .int k' b => if k = k' then some (a == b) else none
  | .str, .string a, .string b => some (a == b)
  | .bool, .bool a, .bool b => some (a == b)
  | _, _, _ => none

def cellsEq : List CK → List Value → List Value → Option Bool
  | [], [], [] => some true
  | k :: ks, x :: xs, y :: ys =>
    match cellEq k x y, cellsEq ks xs ys with
    | some a, some b => some (a && b)
    | _, _ => none
  | _, _, _ => none

def aUn (op : UnOp) (x : Value) : Option Value :=
  match op, x with
  | .neg, .int k n => some (.int k (k.wrap (0 - n)))
  | .not, .bool b => some (.bool !b)
  | _, _ => none

def strOf : List Value → Option (List UInt8)
  | [] => some []
  | .int .u8 n :: r => (strOf r).map fun l => UInt8.ofNat n.toNat :: l
  | _ => none

def bytesOf (s : ByteArray) : List Value := s.data.toList.map fun b => .int .u8 b.toNat

/-- The parts of a literal, laid over the zero cells. -/
def fillL : List Value → List (Nat × List Value) → Option (List Value)
  | cs, [] => some cs
  | cs, (o, vs) :: r => if o + vs.length ≤ cs.length then fillL (cs.take o ++ vs ++ cs.drop (o + vs.length)) r else none

def partsOf (s : Env) : List (Nat × Nat × Operand) → Option (List (Nat × List Value))
  | [] => some []
  | (o, n, x) :: r =>
    match vcells (aeval s x), partsOf s r with
    | some vs, some l => if vs.length = n then some ((o, vs) :: l) else none
    | _, _ => none

def one? : List Value → Option Value
  | [v] => some v
  | _ => none

/-- Keys that may be asked for: numbers, texts, bools. -/
def keyEq : Value → Value → Option Bool
  | .int k a, .int k' b => if k = k' then some (a == b) else none
  | .string a, .string b => some (a == b)
  | .bool a, .bool b => some (a == b)
  | _, _ => none

/-- The entry of a key: where, and what. (none: a key of another kind.) -/
def findM (k : Value) : List (Value × Value) → Nat → Option (Option (Nat × Value))
  | [], _ => some none
  | e :: es, i =>
    match keyEq k e.1 with
    | some true => some (some (i, e.2))
    | some false => findM k es (i + 1)
    | none => none

def isKey : CK → Value → Bool
  | .int, .int _ _ | .str, .string _ | .bool, .bool _ => true
  | _, _ => false

def isText : Value → Bool
  | .string _ => true
  | _ => false

def entriesOf (h : H) : Value → Option (List (Value × Value))
  | .map none => some []
  | .map (some b) => match h[b]? with
    | some (.map es _) => some es
    | _ => none
  | _ => none

/-- A new row. -/
def newRow (h : H) (cs : List Value) (es : Nat) (anc : List Nat) : H := h.push (.cells cs es true anc)

/-- What an append finds: so many elements, these cells. -/
def srcOf (h : H) (es : Nat) : Value → Option (Nat × List Value)
  | .slice none 0 0 => some (0, [])
  | .slice (some ⟨b, o, none⟩) n _ => if n = 0 then some (0, []) else (rd h b o (n * es)).map fun l => (n, l)
  | .slice (some ⟨_, _, some _⟩) 0 0 => some (0, [])
  | .string s => if es = 1 then some (s.size, bytesOf s) else none
  | _ => none

def appendTo (h : H) (es bytes : Nat) (s : Value) (n : Nat) (new : List Value) : Option (Value × H) :=
  match s with
  | .slice none 0 0 =>
    if n = 0 then some (s, h)
    else if n * bytes ≤ 2 ^ 47 then some (.slice (some ⟨h.size, 0, none⟩) n n, newRow h new es [])
    else none
  | .slice (some ⟨b, o, none⟩) len cap =>
    if n = 0 then some (s, h)
    else if len + n ≤ cap then
      match wr h b (o + len * es) new with
      | some h' => some (.slice (some ⟨b, o, none⟩) (len + n) cap, h')
      | none => none
    else if (len + n) * bytes ≤ 2 ^ 47 then
      match h[b]? with
      | some (.cells cs es' true anc) =>
        if es' = es ∧ o + cap * es ≤ cs.length then
          let old := (cs.drop o).take (len * es)
          if o + len * es = cs.length then
            some (.slice (some ⟨h.size, 0, none⟩) (len + n) (len + n), newRow (h.setIfInBounds b (.cells cs es false anc)) (old ++ new) es (b :: anc))
          else some (.slice (some ⟨h.size, 0, none⟩) (len + n) (len + n), newRow (kill h (b :: anc)) (old ++ new) es [])
        else none
      | _ => none
    else none
  | _ => none

def optInt : Option Value → Nat → Option Nat
  | none, d => some d
  | some (.int _ i), _ => if 0 ≤ i then some i.toNat else none
  | _, _ => none

def evOp (ao : AOp) (s : Env) (h : H) : Option (Value × H) :=
  match ao with
  | .mv x => some (aeval s x, h)
  | .pick c a b => match aeval s c with
    | .bool t => some (bif t then aeval s a else aeval s b, h)
    | _ => none
  | .alloc z => some (.pointer (some ⟨h.size, 0, none⟩), newRow h z 0 [])
  | .box x => (vcells (aeval s x)).map fun l => (.pointer (some ⟨h.size, 0, none⟩), newRow h l 0 [])
  | .build z ps => match partsOf s ps with
    | some l => (fillL z l).map fun c => (.agg ⟨c⟩, h)
    | none => none
  | .mkSlice es len z ps => match partsOf s ps with
    | some l => (fillL z l).map fun c => (.slice (some ⟨h.size, 0, none⟩) len len, newRow h c es [])
    | none => none
  | .load1 a => match aeval s a with
    | .pointer (some ⟨b, o, none⟩) => ((rd h b o 1).bind one?).map fun v => (v, h)
    | _ => none
  | .loadN n a => match aeval s a with
    | .pointer (some ⟨b, o, none⟩) => (rd h b o n).map fun l => (.agg ⟨l⟩, h)
    | _ => none
  | .store n a x => match aeval s a, vcells (aeval s x) with
    | .pointer (some ⟨b, o, none⟩), some l => if l.length = n then (wr h b o l).map fun h' => (junk, h') else none
    | _, _ => none
  | .nilCheck x => match aeval s x with
    | .pointer (some a) => some (.pointer (some a), h)
    | .func (.func f) fs cs => some (.func (.func f) fs cs, h)
    | _ => none
  | .bin op x y => (aBin op (aeval s x) (aeval s y)).map fun v => (v, h)
  | .eqNil k neg x y => (nilEq k (aeval s x) (aeval s y)).map fun r => (.bool (if neg then !r else r), h)
  | .eqAgg neg ks x y => match aeval s x, aeval s y with
    | .agg ⟨a⟩, .agg ⟨b⟩ => (cellsEq ks a b).map fun r => (.bool (if neg then !r else r), h)
    | _, _ => none
  | .un op x => (aUn op (aeval s x)).map fun v => (v, h)
  | .conv c x => match c, aeval s x with
    | .int k, .int _ n => some (.int k (k.wrap n), h)
    | .same, .string t => some (.string t, h)
    | .toBytes, .string t => some (.slice (some ⟨h.size, 0, none⟩) t.size t.size, newRow h (bytesOf t) 1 [])
    | .toString, .slice none 0 0 => some (.string .empty, h)
    | .toString, .slice (some ⟨b, o, none⟩) n _ => if n = 0 then some (.string .empty, h) else ((rd h b o n).bind strOf).map fun l => (.string ⟨⟨l⟩⟩, h)
    | _, _ => none
  | .func fn fs cs => some (.func fn ⟨fs.map (aeval s)⟩ ⟨cs.map (aeval s)⟩, h)
  | .mkMap => some (.map (some h.size), h.push (.map [] true))
  | .makeSlice es bytes z l c => match aeval s l, aeval s c with
    | .int .i64 n, .int .i64 m =>
      if 0 ≤ n ∧ n ≤ m ∧ m ≤ 9223372036854775807 ∧ bytes * m.toNat ≤ 2 ^ 47 ∧ z.length = es then
        some (.slice (some ⟨h.size, 0, none⟩) n.toNat m.toNat, newRow h (List.replicate m.toNat z).flatten es [])
      else none
    | _, _ => none
  | .sliceStr x lo hi => match aeval s x with
    | .string t => match optInt (hi.map (aeval s)) t.size with
      | some q => match optInt (lo.map (aeval s)) 0 with
        | some p => if p ≤ q ∧ q ≤ t.size then some (.string (t.extract p q), h) else none
        | none => none
      | none => none
    | _ => none
  | .slice size x lo hi => match aeval s x with
    | .slice none 0 0 => match optInt (hi.map (aeval s)) 0 with
      | some q => match optInt (lo.map (aeval s)) 0 with
        | some p => if p ≤ q ∧ q ≤ 0 then some (.slice none 0 0, h) else none
        | none => none
      | none => none
    | .slice (some ⟨b, o, none⟩) n c => match optInt (hi.map (aeval s)) n with
      | some q => match optInt (lo.map (aeval s)) 0 with
        | some p => if p ≤ q ∧ q ≤ c then some (.slice (some ⟨b, o + p * size, none⟩) (q - p) (c - p), h) else none
        | none => none
      | none => none
    | _ => none
  | .fieldAddr x off => match aeval s x with
    | .pointer (some ⟨b, o, none⟩) => some (.pointer (some ⟨b, o + off, none⟩), h)
    | _ => none
  | .field x off n => match aeval s x with
    | .agg ⟨l⟩ => match n with
      | none => (l[off]?).map fun v => (v, h)
      | some m => some (.agg ⟨(l.drop off).take m⟩, h)
    | _ => none
  | .indexAddr size x i => match aeval s x, aeval s i with
    | .slice (some ⟨b, o, none⟩) n _, .int _ j => if 0 ≤ j ∧ j < n then some (.pointer (some ⟨b, o + j.toNat * size, none⟩), h) else none
    | _, _ => none
  | .indexStr x i => match aeval s x, aeval s i with
    | .string t, .int _ j => if 0 ≤ j then (t.data[j.toNat]?).map fun c => (.int .u8 c.toNat, h) else none
    | _, _ => none
  | .lookup ck z x k ok => match entriesOf h (aeval s x) with
    | some es => if isKey ck (aeval s k) then match findM (aeval s k) es 0 with
      | some (some (_, v)) => some (if ok then .tuple ⟨[v, .bool true]⟩ else v, h)
      | some none => some (if ok then .tuple ⟨[z, .bool false]⟩ else z, h)
      | none => none
      else none
    | none => none
  | .mapUpd ck m k v => match aeval s m with
    | .map (some b) => match h[b]? with
      | some (.map es true) => if isKey ck (aeval s k) then match findM (aeval s k) es 0 with
        | some (some (i, _)) => some (junk, h.setIfInBounds b (.map (es.set i (aeval s k, aeval s v)) true))
        | some none => some (junk, h.setIfInBounds b (.map (es ++ [(aeval s k, aeval s v)]) true))
        | none => none
        else none
      | _ => none
    | _ => none
  | .extract x i => match aeval s x with
    | .tuple ⟨l⟩ => (l[i]?).map fun v => (v, h)
    | _ => none
  | .lenStr x => match aeval s x with
    | .string t => some (.int .i64 t.size, h)
    | _ => none
  | .lenSlice x => match aeval s x with
    | .slice none 0 0 => some (.int .i64 0, h)
    | .slice (some _) n _ => some (.int .i64 n, h)
    | _ => none
  | .lenMap x => (entriesOf h (aeval s x)).map fun es => (.int .i64 es.length, h)
  | .append str es bytes d x => if isText (aeval s x) = str then match srcOf h es (aeval s x) with
    | some (n, new) => if new.all oneCell then appendTo h es bytes (aeval s d) n new else none
    | none => none
    else none
  | .copy str es d x => if isText (aeval s x) = str then match aeval s d, srcOf h es (aeval s x) with
    | .slice none 0 0, some _ => some (.int .i64 0, h)
    | .slice (some ⟨b, o, none⟩) n _, some (m, new) =>
      if min m n = 0 then some (.int .i64 0, h)
      else if new.all oneCell then (wr h b o (new.take (min m n * es))).map fun h' => (.int .i64 (min m n), h') else none
    | _, _ => none
    else none
  | .delete ck m k => match aeval s m with
    | .map none => if isKey ck (aeval s k) then some (.tuple ⟨[]⟩, h) else none
    | .map (some b) => match h[b]? with
      | some (.map es true) => if isKey ck (aeval s k) then match findM (aeval s k) es 0 with
        | some (some (i, _)) => some (.tuple ⟨[]⟩, h.setIfInBounds b (.map (es.eraseIdx i) true))
        | some none => some (.tuple ⟨[]⟩, h)
        | none => none
        else none
      | _ => none
    | _ => none
  | .clear z x => match aeval s x with
    | .slice none 0 0 => some (.tuple ⟨[]⟩, h)
    | .slice (some ⟨b, o, none⟩) n _ => if n = 0 then some (.tuple ⟨[]⟩, h) else (wr h b o (List.replicate n z).flatten).map fun h' => (.tuple ⟨[]⟩, h')
    | _ => none
  | .minmax isMax x y => match aeval s x, aeval s y with
    | .int k a, .int k' b => if k = k' then some (.int k (if isMax then (if b > a then b else a) else (if b < a then b else a)), h) else none
    | _, _ => none

end Go.Ev

/- Ev3: each compact operation is the model's. Part one: what neither makes nor writes memory. -/
namespace Go.Ev

/-- What an operation does: a value, or nothing to be told. -/
def Does (P : Program) (o : Oper) (a : Act) (w : World) (v : Value) (w' : World) : Prop :=
  (execOp a.eval o).run P w = .ok (.value v) w' ∨ ((execOp a.eval o).run P w = .ok .skip w' ∧ v = undef)

/-- An operation's answer on the abstract heap holds in the world. -/
def Good (P : Program) (o : Oper) (ρ : Ren) (h : H) (a : Act) (w : World) (v : Value) (h' : H) : Prop :=
  ∃ v' ρ' w', Does P o a w v' w' ∧ VR ρ' v v' ∧ Rel ρ' h' w' ∧ Ext ρ h w ρ' h' w'

theorem Good.same {P : Program} {o : Oper} {ρ : Ren} {h : H} {a : Act} {w : World} {v v' : Value} (r : Rel ρ h w) (hv : VR ρ v v') (e : (execOp a.eval o).run P w = .ok (.value v') w) : Good P o ρ h a w v h :=
  ⟨v', ρ, w, .inl e, hv, r, .refl _ _ _⟩

variable {P : Program} {ρ : Ren} {h : H} {a : Act} {w : World} {s : Env} {n : Nat}

theorem VR.bool_inv {v' : Value} {b : Bool} (h : VR ρ (.bool b) v') : v' = .bool b := by cases h; rfl
theorem VR.int_inv {v' : Value} {k : IntKind} {m : Int} (h : VR ρ (.int k m) v') : v' = .int k m := by cases h; rfl
theorem VR.string_inv {v' : Value} {t : ByteArray} (h : VR ρ (.string t) v') : v' = .string t := by cases h; rfl
theorem VR.ptr_inv {v' : Value} {b o : Nat} (h : VR ρ (.pointer (some ⟨b, o, none⟩)) v') : ∃ i, ρ b = some i ∧ v' = .pointer (some ⟨i.blk, o + i.sh, none⟩) := by
  cases h; exact ⟨_, by assumption, rfl⟩
theorem VR.agg_inv {v' : Value} {l : List Value} (h : VR ρ (.agg ⟨l⟩) v') : ∃ l', v' = .agg ⟨l'⟩ ∧ VRs ρ l l' := by
  cases h; exact ⟨_, rfl, by assumption⟩
theorem VR.tuple_inv {v' : Value} {l : List Value} (h : VR ρ (.tuple ⟨l⟩) v') : ∃ l', v' = .tuple ⟨l'⟩ ∧ VRs ρ l l' := by
  cases h; exact ⟨_, rfl, by assumption⟩
theorem VR.slice_inv {v' : Value} {b o n c : Nat} (h : VR ρ (.slice (some ⟨b, o, none⟩) n c) v') :
    ∃ i o' c', ρ b = some i ∧ v' = .slice (some ⟨i.blk, o', none⟩) n c' ∧ n ≤ c ∧ c ≤ c' ∧ (c' - c) * i.es ≤ i.room ∧ (o' = o + i.sh ∨ c' = 0) := by
  cases h; exact ⟨_, _, _, by assumption, rfl, by assumption, by assumption, by assumption, by assumption⟩
theorem VR.snil_inv {v' : Value} {n c : Nat} (h : VR ρ (.slice none n c) v') : n = 0 ∧ c = 0 ∧ v' = .slice none 0 0 := by
  cases h; exact ⟨rfl, rfl, rfl⟩
theorem VR.map_inv {v' : Value} {b : Nat} (h : VR ρ (.map (some b)) v') : ∃ i, ρ b = some i ∧ v' = .map (some i.blk) := by
  cases h; exact ⟨_, by assumption, rfl⟩
theorem VR.mnil_inv {v' : Value} (h : VR ρ (.map none) v') : v' = .map none := by cases h; rfl

/-! ### moves -/
theorem good_move (o : Oper) (x : Operand) (ho : o.op = .move x ∨ o.op = .assign x) (r : Rel ρ h w) (he : EnvRel ρ n s a.tmps) : Good P o ρ h a w (aeval s x) h := by
  refine .same r (aeval_sound he x) ?_
  rcases ho with e | e <;> simp [execOp, e]

theorem good_pick (o : Oper) (c x y : Operand) (ho : o.op = .pick c x y) (r : Rel ρ h w) (he : EnvRel ρ n s a.tmps) {t : Bool} (hc : aeval s c = .bool t) : Good P o ρ h a w (bif t then aeval s x else aeval s y) h := by
  have h1 := aeval_sound he c
  rw [hc] at h1
  have h2 := h1.bool_inv
  cases t
  · exact .same r (aeval_sound he y) (by simp [execOp, ho, h2, asBool])
  · exact .same r (aeval_sound he x) (by simp [execOp, ho, h2, asBool])

/-! ### numbers, texts -/
theorem run_intBin (op : BinOp) (t : TypeId) (k : IntKind) (x y : Int) {v : Value} (hop : op ≠ .shl ∧ op ≠ .shr) (e : intBin op k x y = some v) : (binOp op t (.int k x) (.int k y)).run P w = .ok v w := by
  cases op <;> simp [intBin, binOp, Op.intArith, Op.intDiv, Op.intBits, Op.intCmp] at e hop ⊢ <;> first
    | exact e
    | (obtain ⟨h0, rfl⟩ := e; simp [h0])

theorem run_intShift (op : BinOp) (t : TypeId) (k yk : IntKind) (x y : Int) {v : Value} (hop : op = .shl ∨ op = .shr) (e : intShift op k x y = some v) : (binOp op t (.int k x) (.int yk y)).run P w = .ok v w := by
  rcases hop with rfl | rfl <;> simp [intShift, binOp, Op.shift] at e ⊢ <;>
    (obtain ⟨h0, rfl⟩ := e; simp [Int.not_lt.2 h0])

theorem run_strBin (op : BinOp) (t : TypeId) (x y : ByteArray) {v : Value} (e : strBin op x y = some v) : (binOp op t (.string x) (.string y)).run P w = .ok v w := by
  have hb := beq_toListBytes x y
  cases op <;> simp [strBin, binOp, Op.stringOp, hb, bne] at e ⊢ <;> first
    | exact e
    | (obtain ⟨h0, rfl⟩ := e
       simp [h0])

theorem run_intEq (d : Nat) (t : TypeId) (k : IntKind) (hu : P.underlying t = some (.int k)) (q : IntKind) (x y : Int) : (Op.equalIn (d + 1) t (.int q x) (.int q y)).run P w = .ok (x == y) w := by
  simp [Op.equalIn, run_underlying hu]

def EK.fits : EK → TypeDesc → Bool
  | .bool, .bool => true
  | .ptr, .pointer _ => true
  | .slice, .slice _ => true
  | .map, .map _ _ => true
  | .func, .func _ _ _ => true
  | _, _ => false

set_option maxHeartbeats 1000000 in
theorem run_nilEq (t : TypeId) {d : TypeDesc} (hu : P.underlying t = some d) {k : EK} (hk : k.fits d = true) {x y x' y' : Value} (hx : VR ρ x x') (hy : VR ρ y y') {r : Bool} (e : nilEq k x y = some r) :
    (Op.equal t x' y').run P w = .ok r w := by
  show (Op.equalIn (9999 + 1) t x' y').run P w = .ok r w
  generalize 9999 = dd
  unfold nilEq at e
  split at e <;> simp at e <;> subst e <;> cases d <;> simp [EK.fits] at hk <;> cases hx <;> cases hy <;> simp [Op.equalIn, run_underlying hu]

/-- Values to which the model's guard of '==' has nothing to say. -/
def plainEq : Value → Bool
  | .nilIface | .agg _ => false
  | _ => true

theorem run_eqGuard (op : BinOp) (t : TypeId) (x y : Operand) {u v : Value} (hu : plainEq u = true) : (eqGuard op t x y u v).run P w = .ok () w := by
  by_cases hop : op = .eql ∨ op = .neq
  · cases u <;> simp [plainEq] at hu <;> rcases hop with rfl | rfl <;> simp [eqGuard]
  · cases op <;> simp at hop <;> simp [eqGuard]

theorem good_bin (o : Oper) (op : BinOp) (t ty : TypeId) (x y : Operand) (ho : o.op = .binOp op t x y ty) (r : Rel ρ h w) (he : EnvRel ρ n s a.tmps) {v : Value} (e : aBin op (aeval s x) (aeval s y) = some v) : Good P o ρ h a w v h := by
  have h1 := aeval_sound he x
  have h2 := aeval_sound he y
  generalize aeval s x = u1 at *
  generalize aeval s y = u2 at *
  unfold aBin at e
  split at e
  · rename_i k i k' j
    have e1 := h1.int_inv
    have e2 := h2.int_inv
    have hres : ∀ {v}, (binOp op t (.int k i) (.int k' j)).run P w = .ok v w → (execOp a.eval o).run P w = .ok (.value v) w := by
      intro v hv
      simp [execOp, ho, e1, e2, run_eqGuard (P := P) (w := w) op t x y (u := .int k i) (v := .int k' j) rfl, hv]
    have hv : ∃ q z, v = .int q z ∨ ∃ b, v = .bool b := by
      split at e
      · simp [intShift] at e; exact ⟨_, _, .inl e.2.symm⟩
      · simp [intShift] at e; exact ⟨_, _, .inl e.2.symm⟩
      · split at e
        · cases op <;> simp [intBin] at e <;> first
            | exact ⟨k, 0, .inr ⟨_, e.symm⟩⟩
            | exact ⟨_, _, .inl e.symm⟩
            | exact ⟨_, _, .inl e.2.symm⟩
        · cases e
    have hvr : VR ρ v v := by
      obtain ⟨q, z, rfl | ⟨b, rfl⟩⟩ := hv
      · exact .int _ _
      · exact .bool _
    refine .same r hvr (hres ?_)
    split at e
    · exact run_intShift .shl t k k' i j (.inl rfl) e
    · exact run_intShift .shr t k k' i j (.inr rfl) e
    · rename_i n1 n2
      split at e
      · rename_i hk; subst hk
        exact run_intBin op t k i j ⟨n1, n2⟩ e
      · cases e
  · rename_i i j
    have e1 := h1.string_inv
    have e2 := h2.string_inv
    have hvr : VR ρ v v := by
      cases op <;> simp [strBin] at e <;> first
        | (subst e; exact .bool _)
        | (obtain ⟨_, rfl⟩ := e; exact .string _)
    refine .same r hvr ?_
    simp [execOp, ho, e1, e2, run_eqGuard (P := P) (w := w) op t x y (u := .string i) (v := .string j) rfl, run_strBin (P := P) (w := w) op t i j e]
  · cases e

theorem good_eqNil (o : Oper) (neg : Bool) (t ty : TypeId) (x y : Operand) (ho : o.op = .binOp (if neg then .neq else .eql) t x y ty) {d : TypeDesc} (hu : P.underlying t = some d) {k : EK} (hk : k.fits d = true) (r : Rel ρ h w) (he : EnvRel ρ n s a.tmps)
    {q : Bool} (e : nilEq k (aeval s x) (aeval s y) = some q) : Good P o ρ h a w (.bool (if neg then !q else q)) h := by
  have h1 := aeval_sound he x
  have h2 := aeval_sound he y
  have hr := run_nilEq (P := P) (w := w) t hu hk h1 h2 e
  refine .same r (.bool _) ?_
  have key : plainEq (a.eval x) = true ∧ ∀ op, op = .eql ∨ op = .neq → (binOp op t (a.eval x) (a.eval y)).run P w = .ok (.bool (if op = .neq then !q else q)) w := by
    generalize aeval s x = u1 at *
    generalize aeval s y = u2 at *
    generalize a.eval x = v1 at *
    generalize a.eval y = v2 at *
    unfold nilEq at e
    split at e <;> simp at e <;> cases h1 <;> cases h2 <;> refine ⟨rfl, fun op hop => ?_⟩ <;> rcases hop with rfl | rfl <;> simp_all [binOp]
  obtain ⟨g1, g2⟩ := key
  cases neg
  · have := g2 .eql (.inl rfl)
    simp at this
    simp [execOp, ho, run_eqGuard (P := P) (w := w) .eql t x y (v := a.eval y) g1, this]
  · have := g2 .neq (.inr rfl)
    simp at this
    simp [execOp, ho, run_eqGuard (P := P) (w := w) .neq t x y (v := a.eval y) g1, this]

end Go.Ev

/- Ev4: each compact operation is the model's. Part two: addresses, reads, structs. -/
namespace Go.Ev
variable {P : Program} {ρ : Ren} {h : H} {a : Act} {w : World} {s : Env} {n : Nat}

/-! ### structs by value -/
def isRowB (P : Program) (t : TypeId) : Option Bool :=
  match P.underlying t with
  | some (.struct _) | some (.array _ _) => some true
  | some _ => some false
  | none => none

def szOf (P : Program) (t : TypeId) : Option Nat := (P.info? t).map (·.size)

theorem run_isAgg {t : TypeId} {b : Bool} (e : isRowB P t = some b) : (isAgg t).run P w = .ok b w := by
  unfold isRowB at e
  cases hu : P.underlying t with
  | none => rw [hu] at e; cases e
  | some d =>
    rw [hu] at e
    cases d <;> simp at e <;> subst e <;> simp [isAgg, run_underlying hu]

theorem run_sizeOf' {t : TypeId} {m : Nat} (e : szOf P t = some m) : (sizeOf t).run P w = .ok m w := by
  unfold szOf at e
  cases hi : P.info? t with
  | none => rw [hi] at e; cases e
  | some i => rw [hi] at e; cases e; simp [sizeOf, typeInfo, hi]

theorem run_part_row {t : TypeId} (hb : isRowB P t = some true) {m : Nat} (hm : szOf P t = some m) (cs : List Value) (off : Nat) :
    (part t ⟨cs⟩ off).run P w = .ok (.agg ⟨(cs.drop off).take m⟩) w := by
  simp only [part, Sem.run_bind, run_isAgg hb, Result.andThen_ok, if_true, run_sizeOf' hm, Sem.run_pure]
  simp [List.take_drop, Nat.add_comm]

theorem run_part_cell {t : TypeId} (hb : isRowB P t = some false) (cs : List Value) (off : Nat) {v : Value} (hv : cs[off]? = some v) :
    (part t ⟨cs⟩ off).run P w = .ok v w := by
  simp only [part, Sem.run_bind, run_isAgg hb, Result.andThen_ok]
  simp [hv]

def flatFs (fk : TypeId → Option (List CK)) : List Field → Nat → Option (List CK)
  | [], _ => some []
  | f :: r, off =>
    if f.name ≠ "_" ∧ f.offset = off then
      match fk f.type with
      | some ks => match flatFs fk r (off + ks.length) with
        | some l => some (ks ++ l)
        | none => none
      | none => none
    else none

/-- The cells of a type that may be compared cell by cell. -/
def flatK (P : Program) : Nat → TypeId → Option (List CK)
  | 0, _ => none
  | n + 1, t =>
    match P.underlying t with
    | some (.int _) => some [.int]
    | some .string => some [.str]
    | some .bool => some [.bool]
    | some (.struct fs) => if P.stoodInHeld t then none else match flatFs (flatK P n) fs.toList 0 with
      | some l => if szOf P t = some l.length then some l else none
      | none => none
    | _ => none

theorem cellsEq_app : ∀ {ks : List CK} {l : List CK} {xs ys : List Value} {r : Bool}, cellsEq (ks ++ l) xs ys = some r →
    ∃ r1 r2, cellsEq ks (xs.take ks.length) (ys.take ks.length) = some r1 ∧ cellsEq l (xs.drop ks.length) (ys.drop ks.length) = some r2 ∧ r = (r1 && r2)
  | [], l, xs, ys, r, e => ⟨true, r, by simp [cellsEq], by simpa using e, by simp⟩
  | k :: ks, l, [], ys, r, e => by simp [cellsEq] at e
  | k :: ks, l, x :: xs, [], r, e => by simp [cellsEq] at e
  | k :: ks, l, x :: xs, y :: ys, r, e => by
    simp only [List.cons_append, cellsEq] at e
    cases h1 : cellEq k x y with
    | none => rw [h1] at e; simp at e
    | some r0 =>
      cases h2 : cellsEq (ks ++ l) xs ys with
      | none => rw [h1, h2] at e; simp at e
      | some q =>
        rw [h1, h2] at e
        obtain ⟨r1, r2, g1, g2, g3⟩ := cellsEq_app h2
        refine ⟨r0 && r1, r2, by simp [cellsEq, h1, g1], by simpa using g2, ?_⟩
        subst g3
        simp at e; subst e
        simp [Bool.and_assoc]

theorem cellsEq_len : ∀ {ks : List CK} {xs ys : List Value} {r : Bool}, cellsEq ks xs ys = some r → xs.length = ks.length ∧ ys.length = ks.length
  | [], [], [], _, _ => ⟨rfl, rfl⟩
  | [], _ :: _, _, _, e => by simp [cellsEq] at e
  | [], [], _ :: _, _, e => by simp [cellsEq] at e
  | _ :: _, [], _, _, e => by simp [cellsEq] at e
  | _ :: _, _ :: _, [], _, e => by simp [cellsEq] at e
  | k :: ks, x :: xs, y :: ys, r, e => by
    simp only [cellsEq] at e
    cases h1 : cellEq k x y with
    | none => rw [h1] at e; simp at e
    | some r0 =>
      cases h2 : cellsEq ks xs ys with
      | none => rw [h1, h2] at e; simp at e
      | some q => have := cellsEq_len h2; simp [this]

theorem single {xs : List Value} (h : xs.length = 1) : ∃ x, xs = [x] := by
  match xs, h with
  | [x], _ => exact ⟨x, rfl⟩

/-- What '==' answers of two values of a type, by their cells. -/
theorem flat_run : ∀ (m : Nat) (t : TypeId) (ks : List CK), flatK P m t = some ks → ∀ (xs ys : List Value) (r : Bool), cellsEq ks xs ys = some r → ∀ d, m ≤ d →
    szOf P t = szOf P t ∧ ((isRowB P t = some true ∧ szOf P t = some ks.length ∧ (Op.equalIn (d + 1) t (.agg ⟨xs⟩) (.agg ⟨ys⟩)).run P w = .ok r w) ∨
      (isRowB P t = some false ∧ ks.length = 1 ∧ ∃ x y, xs = [x] ∧ ys = [y] ∧ (Op.equalIn (d + 1) t x y).run P w = .ok r w))
  | 0, t, ks, hk => by simp [flatK] at hk
  | m + 1, t, ks, hk => by
    intro xs ys r e d hd
    refine ⟨rfl, ?_⟩
    unfold flatK at hk
    cases hu : P.underlying t with
    | none => rw [hu] at hk; simp at hk
    | some dd =>
      rw [hu] at hk
      obtain ⟨l1, l2⟩ := cellsEq_len e
      cases dd <;> simp at hk
      case bool =>
        subst hk
        obtain ⟨x, rfl⟩ := single l1
        obtain ⟨y, rfl⟩ := single l2
        refine .inr ⟨by simp [isRowB, hu], rfl, x, y, rfl, rfl, ?_⟩
        cases x <;> cases y <;> simp [cellsEq, cellEq] at e
        subst e; simp [Op.equalIn, run_underlying hu]
      case int =>
        subst hk
        obtain ⟨x, rfl⟩ := single l1
        obtain ⟨y, rfl⟩ := single l2
        refine .inr ⟨by simp [isRowB, hu], rfl, x, y, rfl, rfl, ?_⟩
        cases x <;> cases y <;> simp [cellsEq, cellEq] at e
        rename_i k1 n1 k2 n2
        by_cases hkk : k1 = k2
        · subst hkk; simp at e; subst e; simp [Op.equalIn, run_underlying hu]
        · simp [hkk] at e
      case string =>
        subst hk
        obtain ⟨x, rfl⟩ := single l1
        obtain ⟨y, rfl⟩ := single l2
        refine .inr ⟨by simp [isRowB, hu], rfl, x, y, rfl, rfl, ?_⟩
        cases x <;> cases y <;> simp [cellsEq, cellEq] at e
        subst e; simp [Op.equalIn, run_underlying hu, beq_toListBytes]
      case struct fs =>
        obtain ⟨hst, hk⟩ := hk
        cases hf : flatFs (flatK P m) fs.toList 0 with
        | none => rw [hf] at hk; simp at hk
        | some l =>
          rw [hf] at hk; simp at hk
          obtain ⟨hsz, rfl⟩ := hk
          refine .inl ⟨by simp [isRowB, hu], hsz, ?_⟩
          obtain ⟨d, rfl⟩ : ∃ q, d = q + 1 := ⟨d - 1, by omega⟩
          have hfo : P.fieldsOf t = fs := by simp [Program.fieldsOf, hu]
          rw [run_equalIn_struct w (d + 1) t ⟨xs⟩ ⟨ys⟩ (by rw [hfo]; exact hu) hst, hfo]
          -- the fields, from an offset on
          have key : ∀ (fl : List Field) (off : Nat) (l : List CK) (r : Bool), flatFs (flatK P m) fl off = some l → cellsEq l (xs.drop off) (ys.drop off) = some r →
              (Op.eqFields (d + 1) ⟨xs⟩ ⟨ys⟩ fl).run P w = .ok r w := by
            intro fl
            induction fl with
            | nil =>
              intro off l r e1 e2
              simp [flatFs] at e1; subst e1
              cases hx : xs.drop off <;> cases hy : ys.drop off <;> rw [hx, hy] at e2 <;> simp [cellsEq] at e2
              subst e2; simp [Op.eqFields]
            | cons f fl ih =>
              intro off l r e1 e2
              unfold flatFs at e1
              split at e1
              · rename_i hn
                obtain ⟨hn, hoff⟩ := hn
                cases hk1 : flatK P m f.type with
                | none => rw [hk1] at e1; simp at e1
                | some ks1 =>
                  rw [hk1] at e1; simp only at e1
                  cases hk2 : flatFs (flatK P m) fl (off + ks1.length) with
                  | none => rw [hk2] at e1; simp at e1
                  | some l2 =>
                    rw [hk2] at e1; simp at e1; subst e1
                    obtain ⟨r1, r2, g1, g2, rfl⟩ := cellsEq_app e2
                    rw [List.drop_drop, List.drop_drop] at g2
                    have ih' := ih (off + ks1.length) l2 r2 hk2 g2
                    obtain ⟨_, hfield⟩ := flat_run m f.type ks1 hk1 _ _ r1 g1 d (by omega)
                    rw [Op.eqFields, if_pos hn]
                    rcases hfield with ⟨b1, b2, b3⟩ | ⟨b1, b2, x, y, b3, b4, b5⟩
                    · simp only [Sem.run_bind, hoff, run_part_row b1 b2, Result.andThen_ok, b3]
                      cases r1
                      · simp
                      · simpa using ih'
                    · have hx : xs[off]? = some x := by
                        have := congrArg (·[0]?) b3
                        simpa [b2] using this
                      have hy : ys[off]? = some y := by
                        have := congrArg (·[0]?) b4
                        simpa [b2] using this
                      simp only [Sem.run_bind, hoff, run_part_cell b1 _ _ hx, run_part_cell b1 _ _ hy, Result.andThen_ok, b5]
                      cases r1
                      · simp
                      · simpa using ih'
              · cases e1
          exact key fs.toList 0 l r hf (by simpa using e)

theorem cellsEq_VRs : ∀ {ks : List CK} {xs ys xs' ys' : List Value} {r : Bool}, cellsEq ks xs ys = some r → VRs ρ xs xs' → VRs ρ ys ys' → cellsEq ks xs' ys' = some r
  | [], [], [], _, _, _, e, .nil, .nil => e
  | [], _ :: _, _, _, _, _, e, _, _ => by simp [cellsEq] at e
  | [], [], _ :: _, _, _, _, e, _, _ => by simp [cellsEq] at e
  | _ :: _, [], _, _, _, _, e, _, _ => by simp [cellsEq] at e
  | _ :: _, _ :: _, [], _, _, _, e, _, _ => by simp [cellsEq] at e
  | k :: ks, x :: xs, y :: ys, _, _, r, e, .cons hx tx, .cons hy ty => by
    simp only [cellsEq] at e ⊢
    cases h1 : cellEq k x y with
    | none => rw [h1] at e; simp at e
    | some r0 =>
      cases h2 : cellsEq ks xs ys with
      | none => rw [h1, h2] at e; simp at e
      | some q =>
        rw [h1, h2] at e
        have h3 := cellsEq_VRs h2 tx ty
        have h4 : ∀ {x' y'}, VR ρ x x' → VR ρ y y' → cellEq k x' y' = some r0 := by
          intro x' y' hx hy
          unfold cellEq at h1
          split at h1 <;> cases hx <;> cases hy <;> simp_all [cellEq]
        rw [h4 hx hy, h3]; exact e

theorem good_eqAgg (o : Oper) (neg : Bool) (t ty : TypeId) (x y : Operand) (ho : o.op = .binOp (if neg then .neq else .eql) t x y ty) {ks : List CK} (hk : flatK P 20 t = some ks) (hg : P.eqGuardType P.depth t = false) (r : Rel ρ h w) (he : EnvRel ρ n s a.tmps)
    {u v : List Value} (hu : aeval s x = .agg ⟨u⟩) (hv : aeval s y = .agg ⟨v⟩) {q : Bool} (e : cellsEq ks u v = some q) (hrow : isRowB P t = some true) : Good P o ρ h a w (.bool (if neg then !q else q)) h := by
  have h1 := aeval_sound he x
  have h2 := aeval_sound he y
  rw [hu] at h1; rw [hv] at h2
  obtain ⟨u', e1, g1⟩ := h1.agg_inv
  obtain ⟨v', e2, g2⟩ := h2.agg_inv
  have e' := cellsEq_VRs e g1 g2
  have heq : (Op.equal t (.agg ⟨u'⟩) (.agg ⟨v'⟩)).run P w = .ok q w := by
    show (Op.equalIn (9999 + 1) t _ _).run P w = .ok q w
    obtain ⟨_, hh⟩ := flat_run (w := w) 20 t ks hk u' v' q e' 9999 (by omega)
    rcases hh with ⟨_, _, h3⟩ | ⟨h3, _⟩
    · exact h3
    · rw [hrow] at h3; cases h3
  have hguard : ∀ op, (eqGuard op t x y (.agg ⟨u'⟩) (.agg ⟨v'⟩)).run P w = .ok () w := by
    intro op
    by_cases hop : op = .eql ∨ op = .neq
    · rcases hop with rfl | rfl <;> simp [eqGuard, hg]
    · cases op <;> simp at hop <;> simp [eqGuard]
  refine .same r (.bool _) ?_
  cases neg
  · simp [execOp, ho, e1, e2, hguard, binOp, heq]
  · simp [execOp, ho, e1, e2, hguard, binOp, heq]

end Go.Ev

/- Ev5: each compact operation is the model's. Part three: addresses, reads. -/
namespace Go.Ev
variable {P : Program} {ρ : Ren} {h : H} {a : Act} {w : World} {s : Env} {n : Nat}

theorem good_un (o : Oper) (op : UnOp) (t : TypeId) (x : Operand) (ho : o.op = .unOp op t x) (r : Rel ρ h w) (he : EnvRel ρ n s a.tmps) {v : Value} (e : aUn op (aeval s x) = some v) : Good P o ρ h a w v h := by
  have h1 := aeval_sound he x
  generalize aeval s x = u at *
  unfold aUn at e
  split at e <;> simp at e <;> subst e
  · have e1 := h1.int_inv
    exact .same r (.int _ _) (by simp [execOp, ho, e1, Op.unary, Op.intArith])
  · have e1 := h1.bool_inv
    exact .same r (.bool _) (by simp [execOp, ho, e1, Op.unary])

theorem good_convInt (o : Oper) (src dst : TypeId) (x : Operand) (ho : o.op = .convert src dst x) {d : TypeDesc} (hs : P.underlying src = some d) {k : IntKind} (hd : P.underlying dst = some (.int k)) (r : Rel ρ h w) (he : EnvRel ρ n s a.tmps)
    {q : IntKind} {m : Int} (e : aeval s x = .int q m) : Good P o ρ h a w (.int k (k.wrap m)) h := by
  have h1 := aeval_sound he x
  rw [e] at h1
  have e1 := h1.int_inv
  refine .same r (.int _ _) ?_
  cases d <;> simp [execOp, ho, e1, convert, run_underlying hs, run_underlying hd, Conv.intToInt]

theorem good_convSame (o : Oper) (src dst : TypeId) (x : Operand) (ho : o.op = .convert src dst x) {d : TypeDesc} (hs : P.underlying src = some d) (hd : P.underlying dst = some .string) (hds : d = .string) (r : Rel ρ h w) (he : EnvRel ρ n s a.tmps)
    {t : ByteArray} (e : aeval s x = .string t) : Good P o ρ h a w (.string t) h := by
  have h1 := aeval_sound he x
  rw [e] at h1
  have e1 := h1.string_inv
  subst hds
  exact .same r (.string _) (by simp [execOp, ho, e1, convert, run_underlying hs, run_underlying hd])

theorem good_func (o : Oper) (fn : Fn) (fs cs : Array Operand) (ho : o.op = .makeFunc fn fs cs) (r : Rel ρ h w) (he : EnvRel ρ n s a.tmps) :
    Good P o ρ h a w (.func fn ⟨fs.toList.map (aeval s)⟩ ⟨cs.toList.map (aeval s)⟩) h := by
  refine .same r (.func (aeval_map he fs.toList) (aeval_map he cs.toList)) ?_
  simp only [execOp, ho, Instr.makeFunc, Sem.run_bind, Sem.run_pure, Result.andThen_ok]
  congr 2
  congr 1 <;> (apply Array.ext'; simp)

theorem good_extract (o : Oper) (x : Operand) (i : Nat) (ho : o.op = .extract x i) (r : Rel ρ h w) (he : EnvRel ρ n s a.tmps) {l : List Value} (e : aeval s x = .tuple ⟨l⟩) {v : Value} (hv : l[i]? = some v) : Good P o ρ h a w v h := by
  have h1 := aeval_sound he x
  rw [e] at h1
  obtain ⟨l', e1, g⟩ := h1.tuple_inv
  obtain ⟨v', g1, g2⟩ := g.get hv
  exact .same r g2 (by simp [execOp, ho, e1, Instr.extract, g1])

theorem good_fieldCell (o : Oper) (t : TypeId) (x : Operand) (i : Nat) (ho : o.op = .field t x i) {fs : Array Field} (ht : P.underlying t = some (.struct fs)) {f : Field} (hf : fs[i]? = some f) (hb : isRowB P f.type = some false) (r : Rel ρ h w) (he : EnvRel ρ n s a.tmps)
    {l : List Value} (e : aeval s x = .agg ⟨l⟩) {v : Value} (hv : l[f.offset]? = some v) : Good P o ρ h a w v h := by
  have h1 := aeval_sound he x
  rw [e] at h1
  obtain ⟨l', e1, g⟩ := h1.agg_inv
  obtain ⟨v', g1, g2⟩ := g.get hv
  exact .same r g2 (by simp [execOp, ho, e1, Instr.field, run_underlying ht, hf, asAgg, run_part_cell (P := P) (w := w) hb l' _ g1])

theorem good_fieldRow (o : Oper) (t : TypeId) (x : Operand) (i : Nat) (ho : o.op = .field t x i) {fs : Array Field} (ht : P.underlying t = some (.struct fs)) {f : Field} (hf : fs[i]? = some f) (hb : isRowB P f.type = some true) {m : Nat} (hm : szOf P f.type = some m)
    (r : Rel ρ h w) (he : EnvRel ρ n s a.tmps) {l : List Value} (e : aeval s x = .agg ⟨l⟩) : Good P o ρ h a w (.agg ⟨(l.drop f.offset).take m⟩) h := by
  have h1 := aeval_sound he x
  rw [e] at h1
  obtain ⟨l', e1, g⟩ := h1.agg_inv
  exact .same r (.agg ((g.drop f.offset).take m)) (by simp [execOp, ho, e1, Instr.field, run_underlying ht, hf, asAgg, run_part_row (P := P) (w := w) hb hm l'])

theorem good_indexStr (o : Oper) (t : TypeId) (x i : Operand) (ho : o.op = .index t x i) (ht : P.underlying t = some .string) (r : Rel ρ h w) (he : EnvRel ρ n s a.tmps) {b : ByteArray} (e : aeval s x = .string b) {k : IntKind} {j : Int} (ei : aeval s i = .int k j)
    (hj : 0 ≤ j) {c : UInt8} (hc : b.data[j.toNat]? = some c) : Good P o ρ h a w (.int .u8 c.toNat) h := by
  have h1 := aeval_sound he x
  rw [e] at h1
  have h2 := aeval_sound he i
  rw [ei] at h2
  have e1 := h1.string_inv
  have e2 := h2.int_inv
  have hc' : b[j.toNat]? = some c := by
    have hlt : j.toNat < b.size := (Array.getElem?_eq_some_iff.1 hc).1
    rw [getElem?_pos b j.toNat hlt]
    have := (Array.getElem?_eq_some_iff.1 hc).2
    rw [← this]; rfl
  exact .same r (.int _ _) (by simp [execOp, ho, e1, e2, Instr.index, asIntOf, run_underlying ht, hj, hc'])

theorem good_lenStr (o : Oper) (x : Operand) (t : TypeId) (ho : o.op = .call { callee := .builtin .len, args := #[x], argTypes := #[t] }) (ht : P.underlying t = some .string) (r : Rel ρ h w) (he : EnvRel ρ n s a.tmps) {b : ByteArray} (e : aeval s x = .string b) :
    Good P o ρ h a w (.int .i64 b.size) h := by
  have h1 := aeval_sound he x
  rw [e] at h1
  have e1 := h1.string_inv
  exact .same r (.int _ _) (by simp [execOp, ho, e1, resolve, invoke, builtin, Builtin.len_, run_underlying ht, goInt])

theorem good_lenSlice (o : Oper) (x : Operand) (t el : TypeId) (ho : o.op = .call { callee := .builtin .len, args := #[x], argTypes := #[t] }) (ht : P.underlying t = some (.slice el)) (r : Rel ρ h w) (he : EnvRel ρ n s a.tmps) {v : Value} {h' : H} (e : evOp (.lenSlice x) s h = some (v, h')) :
    Good P o ρ h a w v h' := by
  have h1 := aeval_sound he x
  simp only [evOp] at e
  split at e
  · rename_i hb
    rw [hb] at h1
    simp at e; obtain ⟨rfl, rfl⟩ := e
    obtain ⟨_, _, e1⟩ := h1.snil_inv
    exact .same r (.int _ _) (by simp [execOp, ho, e1, resolve, invoke, builtin, Builtin.len_, run_underlying ht, goInt])
  · rename_i ad m c hb
    rw [hb] at h1
    simp at e; obtain ⟨rfl, rfl⟩ := e
    obtain ⟨v', hv'⟩ : ∃ v', v' = a.eval x := ⟨_, rfl⟩
    rw [← hv'] at h1
    cases h1 <;> exact .same r (.int _ _) (by simp [execOp, ho, ← hv', resolve, invoke, builtin, Builtin.len_, run_underlying ht, goInt])
  · cases e

theorem good_lenMap (o : Oper) (x : Operand) (t k q : TypeId) (ho : o.op = .call { callee := .builtin .len, args := #[x], argTypes := #[t] }) (ht : P.underlying t = some (.map k q)) (r : Rel ρ h w) (he : EnvRel ρ n s a.tmps) {m : List (Value × Value)} (e : entriesOf h (aeval s x) = some m) :
    Good P o ρ h a w (.int .i64 m.length) h := by
  have h1 := aeval_sound he x
  unfold entriesOf at e
  split at e
  · rename_i hb
    rw [hb] at h1
    simp at e; subst e
    have e1 := h1.mnil_inv
    exact .same r (.int _ _) (by simp [execOp, ho, e1, resolve, invoke, builtin, Builtin.len_, run_underlying ht, goInt])
  · rename_i b hb
    rw [hb] at h1
    obtain ⟨i, hi, e1⟩ := h1.map_inv
    split at e
    · rename_i es lv hx
      simp at e; subst e
      obtain ⟨es', clock, g1, g2, _⟩ := r.blk b i _ hi hx
      have hl := g2.length
      simp at hl
      exact .same r (.int _ _) (by simp [execOp, ho, e1, resolve, invoke, builtin, Builtin.len_, run_underlying ht, goInt, getObj, Sem.run, g1, hl])
    · cases e
  · cases e

theorem good_minmax (o : Oper) (x y : Operand) (ts : Array TypeId) (isMax : Bool) (ho : o.op = .call { callee := .builtin (if isMax then .max else .min), args := #[x, y], argTypes := ts }) (r : Rel ρ h w) (he : EnvRel ρ n s a.tmps)
    {k : IntKind} {i j : Int} (ex : aeval s x = .int k i) (ey : aeval s y = .int k j) : Good P o ρ h a w (.int k (if isMax then (if j > i then j else i) else (if j < i then j else i))) h := by
  have h1 := aeval_sound he x
  rw [ex] at h1
  have h2 := aeval_sound he y
  rw [ey] at h2
  have e1 := h1.int_inv
  have e2 := h2.int_inv
  refine .same r (.int _ _) ?_
  cases isMax <;> simp [execOp, ho, e1, e2, resolve, invoke, builtin, Builtin.max_, Builtin.min_, Builtin.max2, Builtin.min2]

theorem good_nilCheck (o : Oper) (x : Operand) (ho : o.op = .nilCheck x) (r : Rel ρ h w) (he : EnvRel ρ n s a.tmps) {v : Value} {h' : H} (e : evOp (.nilCheck x) s h = some (v, h')) : Good P o ρ h a w v h' := by
  have h1 := aeval_sound he x
  simp only [evOp] at e
  split at e
  · rename_i ad hb
    rw [hb] at h1
    simp at e; obtain ⟨rfl, rfl⟩ := e
    obtain ⟨v', hv'⟩ : ∃ v', v' = a.eval x := ⟨_, rfl⟩
    rw [← hv'] at h1
    have h1' := h1
    cases h1
    exact .same r h1' (by simp [execOp, ho, ← hv'])
  · rename_i f fs cs hb
    rw [hb] at h1
    simp at e; obtain ⟨rfl, rfl⟩ := e
    obtain ⟨v', hv'⟩ : ∃ v', v' = a.eval x := ⟨_, rfl⟩
    rw [← hv'] at h1
    have h1' := h1
    cases h1
    exact .same r h1' (by simp [execOp, ho, ← hv'])
  · cases e

theorem good_fieldAddr (o : Oper) (t : TypeId) (x : Operand) (i : Nat) (ho : o.op = .fieldAddr t x i) {fs : Array Field} (ht : P.underlying t = some (.struct fs)) {f : Field} (hf : fs[i]? = some f) {m : Nat} (hm : szOf P f.type = some (m + 1))
    (r : Rel ρ h w) (he : EnvRel ρ n s a.tmps) {b q : Nat} (e : aeval s x = .pointer (some ⟨b, q, none⟩)) : Good P o ρ h a w (.pointer (some ⟨b, q + f.offset, none⟩)) h := by
  have h1 := aeval_sound he x
  rw [e] at h1
  obtain ⟨i', hi, e1⟩ := h1.ptr_inv
  refine .same (v' := .pointer (some ⟨i'.blk, q + f.offset + i'.sh, none⟩)) r (.ptr hi) ?_
  simp only [execOp, ho, e1, Instr.fieldAt, Sem.run_bind, run_underlying ht, Result.andThen_ok, hf, Instr.sureAddr, Sem.run_pure, fieldPlace, run_sizeOf' (w := w) hm]
  simp [Addr.add_mid]; omega

theorem good_indexAddr (o : Oper) (t : TypeId) (x i : Operand) (ho : o.op = .indexAddr t x i) {el : TypeId} (ht : P.underlying t = some (.slice el)) {sz : Nat} (hs : szOf P el = some sz) (r : Rel ρ h w) (he : EnvRel ρ n s a.tmps)
    {b q m c : Nat} (e : aeval s x = .slice (some ⟨b, q, none⟩) m c) {k : IntKind} {j : Int} (ei : aeval s i = .int k j) (h0 : 0 ≤ j) (hj : j < m) : Good P o ρ h a w (.pointer (some ⟨b, q + j.toNat * sz, none⟩)) h := by
  have h1 := aeval_sound he x
  rw [e] at h1
  have h2 := aeval_sound he i
  rw [ei] at h2
  obtain ⟨i', o', c', hi, e1, g1, g2, g3, g4⟩ := h1.slice_inv
  have e2 := h2.int_inv
  have ho' : o' = q + i'.sh := by rcases g4 with g4 | g4 <;> omega
  subst ho'
  refine .same (v' := .pointer (some ⟨i'.blk, q + j.toNat * sz + i'.sh, none⟩)) r (.ptr hi) ?_
  simp only [execOp, ho, e1, e2, Instr.indexAt, Sem.run_bind, asIntOf, Sem.run_pure, Result.andThen_ok, run_underlying ht]
  simp [h0, hj, Addr.add_mid, run_sizeOf' (w := w) hs]; omega

theorem good_load1 (o : Oper) (t : TypeId) (x : Operand) (ho : o.op = .load t x) (hb : isRowB P t = some false) (r : Rel ρ h w) (he : EnvRel ρ n s a.tmps) {b q : Nat} (e : aeval s x = .pointer (some ⟨b, q, none⟩))
    {v : Value} (hr : (rd h b q 1).bind one? = some v) : Good P o ρ h a w v h := by
  have h1 := aeval_sound he x
  rw [e] at h1
  obtain ⟨i, hi, e1⟩ := h1.ptr_inv
  cases hl : rd h b q 1 with
  | none => rw [hl] at hr; cases hr
  | some l =>
    rw [hl] at hr
    obtain ⟨g1, l', g2, g3⟩ := rd_rel r hi hl
    obtain ⟨u, rfl⟩ := single g1
    simp [one?] at hr; subst hr
    cases g2 with
    | cons hv ht =>
      rename_i v' _
      have hc := g3 0 v' (by simp)
      refine .same r hv ?_
      simp only [execOp, ho, e1, Instr.loadAt, Instr.sureAddr, loadVar, Sem.run_bind, Sem.run_pure, Result.andThen_ok, run_isAgg (w := w) hb]
      simp only [Nat.add_zero] at hc
      simp [load, Sem.run, hc]

theorem good_loadN (o : Oper) (t : TypeId) (x : Operand) (ho : o.op = .load t x) (hb : isRowB P t = some true) {m : Nat} (hm : szOf P t = some m) (r : Rel ρ h w) (he : EnvRel ρ n s a.tmps) {b q : Nat} (e : aeval s x = .pointer (some ⟨b, q, none⟩))
    {l : List Value} (hl : rd h b q m = some l) : Good P o ρ h a w (.agg ⟨l⟩) h := by
  have h1 := aeval_sound he x
  rw [e] at h1
  obtain ⟨i, hi, e1⟩ := h1.ptr_inv
  obtain ⟨g1, l', g2, g3⟩ := rd_rel r hi hl
  have hlen : l'.length = m := by rw [← g2.length]; exact g1
  refine .same r (.agg g2) ?_
  have hld : (loadCells ⟨i.blk, q + i.sh, none⟩ m).run P w = .ok l'.toArray w := by
    rw [← hlen]; exact run_loadCells_list w _ l' (fun j v hv => by rw [Addr.add_mid]; exact g3 j v hv)
  simp only [execOp, ho, e1, Instr.loadAt, Instr.sureAddr, loadVar, Sem.run_bind, Sem.run_pure, Result.andThen_ok, run_isAgg (w := w) hb, if_true, run_sizeOf' (w := w) hm, hld]

/-! ### slices of slices and texts -/
theorem run_sliceBound {x : Value} {k : IntKind} {j : Int} (e : x = .int k j) {y : Nat} (h0 : 0 ≤ j) (h1 : j ≤ y) (c : BoundsCode) : (Instr.sliceBound x y c).run P w = .ok j.toNat w := by
  subst e
  simp [Instr.sliceBound, asIntOf, h0, h1]

/-- A bound of a slice expression. -/
def BoundOf (x : Option Value) (d q : Nat) : Prop := (x = none ∧ q = d) ∨ ∃ k j, x = some (.int k j) ∧ 0 ≤ j ∧ j.toNat = q

theorem optInt_sound (he : EnvRel ρ n s a.tmps) {x : Option Operand} {d q : Nat} (e : optInt (x.map (aeval s)) d = some q) : BoundOf (x.map a.eval) d q := by
  cases x with
  | none => simp [optInt] at e; exact .inl ⟨rfl, e.symm⟩
  | some x =>
    simp only [Option.map_some] at e
    have h1 := aeval_sound he x
    cases hx : aeval s x <;> rw [hx] at e h1 <;> simp [optInt] at e
    rename_i k j
    exact .inr ⟨k, j, by simp [h1.int_inv], e.1, e.2⟩

theorem run_sliceBounds (isSlice : Bool) {len cap p q : Nat} {lo hi : Option Value} (hl : BoundOf lo 0 p) (hh : BoundOf hi len q) (h1 : p ≤ q) (h2 : q ≤ cap) :
    (Instr.sliceBounds isSlice len cap lo hi none).run P w = .ok (p, q, cap) w := by
  rcases hh with ⟨rfl, rfl⟩ | ⟨k, j, rfl, g1, g2⟩ <;> rcases hl with ⟨rfl, rfl⟩ | ⟨k2, j2, rfl, g3, g4⟩
  · simp [Instr.sliceBounds]
  · have hb := fun c => run_sliceBound (P := P) (w := w) (x := .int k2 j2) rfl g3 (y := q) (by omega) c
    simp [Instr.sliceBounds, hb, g4]
  · have ha := fun c => run_sliceBound (P := P) (w := w) (x := .int k j) rfl g1 (y := cap) (by omega) c
    simp [Instr.sliceBounds, ha, g2]
  · have ha := fun c => run_sliceBound (P := P) (w := w) (x := .int k j) rfl g1 (y := cap) (by omega) c
    have hb := fun c => run_sliceBound (P := P) (w := w) (x := .int k2 j2) rfl g3 (y := q) (by omega) c
    simp [Instr.sliceBounds, ha, hb, g2, g4]

theorem good_slice (o : Oper) (t : TypeId) (x : Operand) (lo hi : Option Operand) (ho : o.op = .slice t x lo hi none) {el : TypeId} (ht : P.underlying t = some (.slice el)) {sz : Nat} (hs : szOf P el = some sz) (r : Rel ρ h w) (he : EnvRel ρ n s a.tmps)
    {b q m c : Nat} (e : aeval s x = .slice (some ⟨b, q, none⟩) m c) {p z : Nat} (ez : optInt (hi.map (aeval s)) m = some z) (ep : optInt (lo.map (aeval s)) 0 = some p) (h1 : p ≤ z) (h2 : z ≤ c) :
    Good P o ρ h a w (.slice (some ⟨b, q + p * sz, none⟩) (z - p) (c - p)) h := by
  have hx := aeval_sound he x
  rw [e] at hx
  obtain ⟨i', o', c', hi', e1, g1, g2, g3, g4⟩ := hx.slice_inv
  have hb := run_sliceBounds (P := P) (w := w) true (optInt_sound he ep) (optInt_sound he ez) h1 (Nat.le_trans h2 g2)
  have hcc : (c' - p) - (c - p) = c' - c := by omega
  have hrun : ∀ ad, ad = (if c' = p then some (⟨i'.blk, o', none⟩ : Addr) else some (⟨i'.blk, o' + p * sz, none⟩ : Addr)) → (execOp a.eval o).run P w = .ok (.value (.slice ad (z - p) (c' - p))) w := by
    intro ad had
    simp only [execOp, ho, e1, Instr.sliceAt, Instr.slice, Sem.run_bind, run_underlying ht, Result.andThen_ok, Option.map_none, hb, run_sizeOf' (w := w) hs, Sem.run_pure]
    rw [had]
    by_cases hc : c' = p
    · simp [hc]
    · simp [hc, Addr.add_mid]
  refine .same r ?_ (hrun _ rfl)
  by_cases hc : c' = p
  · rw [if_pos hc]
    exact .slice hi' (by omega) (by omega) (by rw [hcc]; exact g3) (.inr (by omega))
  · rw [if_neg hc]
    exact .slice hi' (by omega) (by omega) (by rw [hcc]; exact g3) (by rcases g4 with g4 | g4 <;> omega)

theorem good_sliceNil (o : Oper) (t : TypeId) (x : Operand) (lo hi : Option Operand) (ho : o.op = .slice t x lo hi none) {el : TypeId} (ht : P.underlying t = some (.slice el)) {sz : Nat} (hs : szOf P el = some sz) (r : Rel ρ h w) (he : EnvRel ρ n s a.tmps)
    (e : aeval s x = .slice none 0 0) {p z : Nat} (ez : optInt (hi.map (aeval s)) 0 = some z) (ep : optInt (lo.map (aeval s)) 0 = some p) (h1 : p ≤ z) (h2 : z ≤ 0) :
    Good P o ρ h a w (.slice none 0 0) h := by
  have hx := aeval_sound he x
  rw [e] at hx
  obtain ⟨_, _, e1⟩ := hx.snil_inv
  obtain rfl : z = 0 := by omega
  obtain rfl : p = 0 := by omega
  have hb := run_sliceBounds (P := P) (w := w) true (cap := 0) (optInt_sound he ep) (optInt_sound he ez) (Nat.le_refl _) (Nat.le_refl _)
  refine .same r .snil ?_
  simp only [execOp, ho, e1, Instr.sliceAt, Instr.slice, Sem.run_bind, run_underlying ht, Result.andThen_ok, Option.map_none, hb, run_sizeOf' (w := w) hs, Sem.run_pure]
  simp

theorem good_sliceStr (o : Oper) (t : TypeId) (x : Operand) (lo hi : Option Operand) (ho : o.op = .slice t x lo hi none) (ht : P.underlying t = some .string) (r : Rel ρ h w) (he : EnvRel ρ n s a.tmps)
    {b : ByteArray} (e : aeval s x = .string b) {p z : Nat} (ez : optInt (hi.map (aeval s)) b.size = some z) (ep : optInt (lo.map (aeval s)) 0 = some p) (h1 : p ≤ z) (h2 : z ≤ b.size) :
    Good P o ρ h a w (.string (b.extract p z)) h := by
  have hx := aeval_sound he x
  rw [e] at hx
  have e1 := hx.string_inv
  have hb := run_sliceBounds (P := P) (w := w) false (optInt_sound he ep) (optInt_sound he ez) h1 h2
  refine .same r (.string _) ?_
  simp only [execOp, ho, e1, Instr.sliceAt, Instr.slice, Sem.run_bind, run_underlying ht, Result.andThen_ok, Option.map_none, Option.isSome_none, Sem.run_pure]
  simp [hb]

end Go.Ev

/- Ev6: each compact operation is the model's. Part four: what makes and writes memory. -/
namespace Go.Ev
variable {P : Program} {ρ : Ren} {h : H} {a : Act} {w : World} {s : Env} {n : Nat}

def isKonst : Value → Bool
  | .bool _ | .int _ _ | .string _ | .pointer none | .slice none 0 0 | .map none | .nilFunc | .nilIface => true
  | _ => false

theorem VR.konst {v : Value} (h : isKonst v = true) : VR ρ v v := by
  unfold isKonst at h
  split at h <;> first | constructor | cases h

theorem VRs.konst : ∀ {l : List Value}, l.all isKonst = true → VRs ρ l l
  | [], _ => .nil
  | v :: l, h => by
    rw [List.all_cons, Bool.and_eq_true] at h
    exact .cons (.konst h.1) (.konst h.2)

/-- The zero cells of a type. -/
def zeroC (P : Program) (t : TypeId) : Option (List Value) :=
  match P.info? t with
  | some i => match i.zero with
    | some z => if z.cells.toList.all isKonst && (z.cells.size == i.size) then some z.cells.toList else none
    | none => none
  | none => none

theorem zeroC_run {t : TypeId} {l : List Value} (e : zeroC P t = some l) : ∃ z, (∀ w, (zeroValue t).run P w = .ok z w) ∧ z.cells.toList = l ∧ l.all isKonst = true ∧ szOf P t = some l.length := by
  unfold zeroC at e
  cases hi : P.info? t with
  | none => rw [hi] at e; cases e
  | some i =>
    rw [hi] at e
    cases hz : i.zero with
    | none => simp [hz] at e
    | some z =>
      simp only [hz] at e
      split at e
      · rename_i hc
        cases e
        simp at hc
        refine ⟨z, fun w => by simp [zeroValue, typeInfo, hi, hz], rfl, by simpa using hc.1, by simp [szOf, hi, hc.2]⟩
      · cases e

theorem toList_inj {α : Type} {x : Array α} {l : List α} (h : x.toList = l) : x = ⟨l⟩ := by cases x; simp at h; subst h; rfl

theorem good_alloc (o : Oper) (t : TypeId) (ho : o.op = .alloc t) {z : List Value} (hz : zeroC P t = some z) (r : Rel ρ h w) : Good P o ρ h a w (.pointer (some ⟨h.size, 0, none⟩)) (newRow h z 0 []) := by
  obtain ⟨zv, g1, g2, g3, _⟩ := zeroC_run hz
  have e2 := toList_inj g2
  obtain ⟨r1, r2⟩ := row_rel r z zv.cells t 0 true [] (by simp) 0 (by rw [g2]; simpa using VRs.konst g3) (by rw [e2]; simp) _ rfl
  refine ⟨.pointer (some ⟨w.heap.size, 0, none⟩), _, w.alloc (.cells zv.cells t), .inl ?_, ?_, r1, r2⟩
  · simp [execOp, ho, Instr.alloc, g1, newVar, Go.newRow, newObj, Sem.run]
  · exact .ptr (i := ⟨w.heap.size, 0, 0, 0⟩) (by simp [Ren.put])

theorem good_box (o : Oper) (t : TypeId) (x : Operand) (ho : o.op = .box t x) (r : Rel ρ h w) (he : EnvRel ρ n s a.tmps) {l : List Value} (hl : vcells (aeval s x) = some l) :
    Good P o ρ h a w (.pointer (some ⟨h.size, 0, none⟩)) (newRow h l 0 []) := by
  have h1 := (aeval_sound he x).cells hl
  obtain ⟨r1, r2⟩ := row_rel r l (a.eval x).cells t 0 true [] (by simp) 0 (by rw [List.take_of_length_le (by rw [h1.length]; exact Nat.le_refl _)]; exact h1) (by rw [h1.length]; simp) _ rfl
  refine ⟨.pointer (some ⟨w.heap.size, 0, none⟩), _, w.alloc (.cells (a.eval x).cells t), .inl ?_, ?_, r1, r2⟩
  · simp [execOp, ho, Instr.box, newVar, Go.newRow, newObj, Sem.run]
  · exact .ptr (i := ⟨w.heap.size, 0, 0, 0⟩) (by simp [Ren.put])

theorem good_mkMap (o : Oper) (t : TypeId) (ho : o.op = .makeMap t none) (r : Rel ρ h w) : Good P o ρ h a w (.map (some h.size)) (h.push (.map [] true)) := by
  have hnew := heap_alloc_new w (.map #[] 0)
  obtain ⟨r1, r2⟩ := push_rel r (.map #[] 0) (.map [] true) ⟨w.heap.size, 0, 0, 0⟩ rfl ⟨#[], 0, hnew, .nil, .nil, by simp, by simp⟩ (by simp [Blk.ancs])
  refine ⟨.map (some w.heap.size), _, w.alloc (.map #[] 0), .inl ?_, ?_, r1, r2⟩
  · simp [execOp, ho, Instr.makeMap, newObj, Sem.run]
  · exact .map (i := ⟨w.heap.size, 0, 0, 0⟩) (by simp [Ren.put])

theorem good_store (o : Oper) (t : TypeId) (x y : Operand) (ho : o.op = .store t x y) {m : Nat} (hm : szOf P t = some m) (r : Rel ρ h w) (he : EnvRel ρ n s a.tmps) {b q : Nat} (e : aeval s x = .pointer (some ⟨b, q, none⟩))
    {l : List Value} (hl : vcells (aeval s y) = some l) (hlen : l.length = m) {h' : H} (hw : wr h b q l = some h') : Good P o ρ h a w junk h' := by
  have h1 := aeval_sound he x
  rw [e] at h1
  obtain ⟨i, hi, e1⟩ := h1.ptr_inv
  have h2 := (aeval_sound he y).cells hl
  obtain ⟨g1, g2, g3, g4, g5⟩ := wr_rel r hi hw h2
  have hst := run_storeCells_cells (P := P) i.blk (q + i.sh) (a.eval y).cells.toList 0 w (by simpa using g1) (by simpa using g2) g3
  simp only [Nat.add_zero] at hst
  have hsz : (a.eval y).cells.size = m := by rw [← hlen, h2.length]; simp
  refine ⟨undef, ρ, _, .inr ⟨?_, rfl⟩, .junk _, g4, g5⟩
  simp only [execOp, ho, e1, Instr.storeAt, Instr.sureAddr, storeVar, Sem.run_bind, Sem.run_pure, Result.andThen_ok, run_sizeOf' (w := w) hm]
  simp [hsz, hst]

/-! ### literals -/
theorem foldl_splice (off : Nat) : ∀ (vs : List Value) (k : Nat) (cells : Array Value), off + k + vs.length ≤ cells.size →
    ((vs.zipIdx k).foldl (fun cs (c, j) => cs.setIfInBounds (off + j) c) cells).toList = cells.toList.take (off + k) ++ vs ++ cells.toList.drop (off + k + vs.length)
  | [], k, cells, _ => by simp
  | v :: vs, k, cells, hle => by
    simp only [List.length_cons] at hle
    rw [List.zipIdx_cons, List.foldl_cons, foldl_splice off vs (k + 1) _ (by simp; omega)]
    have hk : off + k < cells.toList.length := by simp; omega
    simp only [Array.toList_setIfInBounds]
    rw [show off + (k + 1) = (off + k) + 1 by omega, List.take_succ_eq_append_getElem (by simpa using hk)]
    have hd : List.drop (off + k + 1 + vs.length) (cells.toList.set (off + k) v) = List.drop (off + k + (v :: vs).length) cells.toList := by
      rw [List.drop_set, if_pos (by omega)]
      congr 1; simp; omega
    rw [hd]
    simp only [List.take_set]
    rw [List.set_eq_of_length_le (by simp; omega)]
    simp

theorem fill_sound {place : Nat → Option (Nat × Nat)} : ∀ {l : List (Nat × List Value)} {ps : List (Nat × Value)} {cs c : List Value} {cs' : Array Value},
    fillL cs l = some c → VRs ρ cs cs'.toList → l.length = ps.length →
    (∀ (k : Nat) (p : Nat × List Value) (q : Nat × Value), l[k]? = some p → ps[k]? = some q → place q.1 = some (p.1, p.2.length) ∧ VRs ρ p.2 q.2.cells.toList) →
    ∃ c' : Array Value, Instr.fill place cs' ps = some c' ∧ VRs ρ c c'.toList
  | [], [], cs, c, cs', e, hv, _, _ => by simp [fillL] at e; subst e; exact ⟨cs', rfl, hv⟩
  | [], _ :: _, _, _, _, _, _, hl, _ => by simp at hl
  | _ :: _, [], _, _, _, _, _, hl, _ => by simp at hl
  | (o, vs) :: l, (i, v) :: ps, cs, c, cs', e, hv, hl, hp => by
    unfold fillL at e
    split at e
    · rename_i hle
      obtain ⟨g1, g2⟩ := hp 0 (o, vs) (i, v) rfl rfl
      have hvl := g2.length
      have hcl := hv.length
      simp only at g1 g2 hvl
      simp only [Array.length_toList] at hvl hcl
      unfold Instr.fill
      rw [g1]
      simp only
      have hcond : ¬ (v.cells.size ≠ vs.length || decide (o + v.cells.size > cs'.size)) = true := by simp; omega
      rw [if_neg (by simpa using hcond)]
      have hsp := foldl_splice o v.cells.toList 0 cs' (by simp; omega)
      have harr : (v.cells.zipIdx.foldl (fun cs (x : Value × Nat) => cs.setIfInBounds (o + x.2) x.1) cs').toList = cs'.toList.take o ++ v.cells.toList ++ cs'.toList.drop (o + v.cells.size) := by
        rw [← Array.foldl_toList, Array.toList_zipIdx]
        simpa using hsp
      refine fill_sound e ?_ (by simpa using hl) (fun k p q h1 h2 => hp (k + 1) p q (by simpa using h1) (by simpa using h2))
      rw [harr, ← hvl]
      exact ((hv.take o).append g2).append (hv.drop _)
    · cases e

theorem partsOf_sound (he : EnvRel ρ n s a.tmps) : ∀ {ps : List (Nat × Nat × Operand)} {l : List (Nat × List Value)}, partsOf s ps = some l →
    l.length = ps.length ∧ ∀ (k : Nat) (p : Nat × List Value) (q : Nat × Nat × Operand), l[k]? = some p → ps[k]? = some q → p.1 = q.1 ∧ p.2.length = q.2.1 ∧ VRs ρ p.2 (a.eval q.2.2).cells.toList
  | [], l, e => by simp [partsOf] at e; subst e; exact ⟨rfl, fun k p q h1 _ => by simp at h1⟩
  | (o, m, x) :: ps, l, e => by
    unfold partsOf at e
    cases h1 : vcells (aeval s x) with
    | none => rw [h1] at e; simp at e
    | some vs =>
      cases h2 : partsOf s ps with
      | none => rw [h1, h2] at e; simp at e
      | some l2 =>
        rw [h1, h2] at e
        simp only at e
        split at e
        · rename_i hm
          cases e
          obtain ⟨g1, g2⟩ := partsOf_sound he h2
          refine ⟨by simp [g1], fun k p q h3 h4 => ?_⟩
          cases k with
          | zero =>
            simp at h3 h4; subst h3; subst h4
            exact ⟨rfl, hm, (aeval_sound he x).cells h1⟩
          | succ k => exact g2 k p q (by simpa using h3) (by simpa using h4)
        · cases e

end Go.Ev
