/- Texts of the proofs over heraldlaw20, put together by a program (merge20.py): Ev0. -/
import Derived.Defers
import Derived.Orders
set_option linter.unusedVariables false
set_option linter.unusedSimpArgs false
namespace Go.Ev
def junk : Value := .complex .f32 7 7
inductive Blk where
 | dead
 | cells (cs : List Value) (es : Nat) (live : Bool) (anc : List Nat)
 | map (es : List (Value × Value)) (live : Bool)
 | iter (s : ByteArray) (pos : Nat)
 deriving Inhabited
abbrev H := Array Blk
def Blk.isLive : Blk → Bool
 | .cells _ _ l _ => l
 | .map _ l => l
 | .iter _ _ => true
 | .dead => false
def Blk.isDead : Blk → Bool
 | .dead => true
 | _ => false
def Blk.len : Blk → Nat
 | .cells cs _ _ _ => cs.length
 | _ => 0
def Blk.ancs : Blk → List Nat
 | .cells _ _ _ a => a
 | _ => []
structure Info where
 blk : Nat
 sh : Nat
 es : Nat
 room : Nat
abbrev Ren := Nat → Option Info
mutual
inductive VR (ρ : Ren) : Value → Value → Prop
 | junk (v : Value) : VR ρ junk v
 | bool (b : Bool) : VR ρ (.bool b) (.bool b)
 | int (k : IntKind) (n : Int) : VR ρ (.int k n) (.int k n)
 | string (s : ByteArray) : VR ρ (.string s) (.string s)
 | pnil : VR ρ (.pointer none) (.pointer none)
 | ptr {b o : Nat} {i : Info} (h : ρ b = some i) : VR ρ (.pointer (some ⟨b,o,none⟩)) (.pointer (some ⟨i.blk,o + i.sh,none⟩))
 | snil : VR ρ (.slice none 0 0) (.slice none 0 0)
 | slice {b o o' n c c' : Nat} {i : Info} (h : ρ b = some i) (hn : n ≤ c) (hc : c ≤ c') (hr : (c' - c) * i.es ≤ i.room) (ho : o' = o + i.sh ∨ c' = 0) :
   VR ρ (.slice (some ⟨b,o,none⟩) n c) (.slice (some ⟨i.blk,o',none⟩) n c')
 | dang (a : Addr) : VR ρ (.slice (some ⟨0,0,some 0⟩) 0 0) (.slice (some a) 0 0)
 | mnil : VR ρ (.map none) (.map none)
 | map {b : Nat} {i : Info} (h : ρ b = some i) : VR ρ (.map (some b)) (.map (some i.blk))
 | func {f : Fn} {fs fs' cs cs' : List Value} (hf : VRs ρ fs fs') (hc : VRs ρ cs cs') : VR ρ (.func f ⟨fs⟩ ⟨cs⟩) (.func f ⟨fs'⟩ ⟨cs'⟩)
 | fnil : VR ρ .nilFunc .nilFunc
 | inil : VR ρ .nilIface .nilIface
 | iface (t : TypeId) {v v' : Value} (h : VR ρ v v') : VR ρ (.iface t v) (.iface t v')
 | agg {cs cs' : List Value} (h : VRs ρ cs cs') : VR ρ (.agg ⟨cs⟩) (.agg ⟨cs'⟩)
 | tuple {cs cs' : List Value} (h : VRs ρ cs cs') : VR ρ (.tuple ⟨cs⟩) (.tuple ⟨cs'⟩)
inductive VRs (ρ : Ren) : List Value → List Value → Prop
 | nil : VRs ρ [] []
 | cons {v v' : Value} {l l' : List Value} (h : VR ρ v v') (t : VRs ρ l l') : VRs ρ (v :: l) (v' :: l')
end
theorem VRs.length {ρ : Ren} : ∀ {l l' : List Value},VRs ρ l l' → l.length = l'.length
 | _,_,.nil => rfl
 | _,_,.cons _ t => by simp [t.length]
theorem VRs.get {ρ : Ren} : ∀ {l l' : List Value},VRs ρ l l' → ∀ {i : Nat} {v : Value},l[i]? = some v → ∃ v',l'[i]? = some v' ∧ VR ρ v v'
 | _,_,.nil,i,v,h => by simp at h
 | _,_,.cons (v' := v') hv t,i,v,h => by
  cases i with
  | zero => simp at h;subst h;exact ⟨v',by simp,hv⟩
  | succ i => simp only [List.getElem?_cons_succ] at h ⊢;exact t.get h
theorem VRs.of_get {ρ : Ren} : ∀ {l l' : List Value},l.length = l'.length → (∀ (i : Nat) (v : Value),l[i]? = some v → ∃ v',l'[i]? = some v' ∧ VR ρ v v') → VRs ρ l l'
 | [],[],_,_ => .nil
 | [],_ :: _,h,_ => by simp at h
 | _ :: _,[],h,_ => by simp at h
 | a :: l,b :: l',h,g => by
  obtain ⟨v',hv,hr⟩ := g 0 a rfl
  simp at hv;subst hv
  exact .cons hr (VRs.of_get (by simpa using h) fun i v hi => by simpa using g (i + 1) v (by simpa using hi))
theorem VRs.append {ρ : Ren} : ∀ {l l' m m' : List Value},VRs ρ l l' → VRs ρ m m' → VRs ρ (l ++ m) (l' ++ m')
 | _,_,_,_,.nil,h => h
 | _,_,_,_,.cons v t,h => .cons v (t.append h)
theorem VRs.take {ρ : Ren} : ∀ {l l' : List Value} (n : Nat),VRs ρ l l' → VRs ρ (l.take n) (l'.take n)
 | _,_,0,_ => by simp;exact .nil
 | _,_,_ + 1,.nil => by simp;exact .nil
 | _,_,n + 1,.cons v t => by simp;exact .cons v (t.take n)
theorem VRs.drop {ρ : Ren} : ∀ {l l' : List Value} (n : Nat),VRs ρ l l' → VRs ρ (l.drop n) (l'.drop n)
 | _,_,0,h => by simpa using h
 | _,_,_ + 1,.nil => by simp;exact .nil
 | _,_,n + 1,.cons v t => by simp;exact t.drop n
def Ren.le (ρ ρ' : Ren) : Prop := ∀ b i,ρ b = some i → ρ' b = some i
theorem Ren.le.refl (ρ : Ren) : ρ.le ρ := fun _ _ h => h
theorem Ren.le.trans {ρ ρ' ρ'' : Ren} (h : ρ.le ρ') (h' : ρ'.le ρ'') : ρ.le ρ'' := fun b i hb => h' b i (h b i hb)
mutual
theorem VR.mono {ρ ρ' : Ren} (hle : ρ.le ρ') : ∀ {v v' : Value},VR ρ v v' → VR ρ' v v'
 | _,_,.junk v => .junk v
 | _,_,.bool b => .bool b
 | _,_,.int k n => .int k n
 | _,_,.string s => .string s
 | _,_,.pnil => .pnil
 | _,_,.ptr h => .ptr (hle _ _ h)
 | _,_,.snil => .snil
 | _,_,.slice h hn hc hr ho => .slice (hle _ _ h) hn hc hr ho
 | _,_,.dang a => .dang a
 | _,_,.mnil => .mnil
 | _,_,.map h => .map (hle _ _ h)
 | _,_,.func hf hc => .func (hf.mono hle) (hc.mono hle)
 | _,_,.fnil => .fnil
 | _,_,.inil => .inil
 | _,_,.iface t h => .iface t (h.mono hle)
 | _,_,.agg h => .agg (h.mono hle)
 | _,_,.tuple h => .tuple (h.mono hle)
theorem VRs.mono {ρ ρ' : Ren} (hle : ρ.le ρ') : ∀ {l l' : List Value},VRs ρ l l' → VRs ρ' l l'
 | _,_,.nil => .nil
 | _,_,.cons h t => .cons (h.mono hle) (t.mono hle)
end
def oneCell : Value → Bool
 | .agg _ | .tuple _ | .complex _ _ _ => false
 | _ => true
def vcells : Value → Option (List Value)
 | .complex _ _ _ | .tuple _ => none
 | .agg cs => some cs.toList
 | v => some [v]
theorem VR.cells {ρ : Ren} {v v' : Value} {l : List Value} (h : VR ρ v v') (hv : vcells v = some l) : VRs ρ l v'.cells.toList := by
 cases h <;> simp [vcells,Go.Ev.junk,Value.cells] at hv ⊢ <;> subst hv <;> first
  | assumption
  | exact .cons (by constructor <;> assumption) .nil
  | exact .cons (.ptr (by assumption)) .nil
theorem oneCell_plain {v : Value} (h : oneCell v = true) : (∀ c,v ≠ .agg c) ∧ (∀ c,v ≠ .tuple c) := by
 cases v <;> simp [oneCell] at h ⊢
theorem VR.oneCell {ρ : Ren} {v v' : Value} (h : VR ρ v v') (hv : oneCell v = true) : (∀ c,v' ≠ .agg c) ∧ (∀ c,v' ≠ .tuple c) := by
 cases h <;> simp [Ev.oneCell,Go.Ev.junk] at hv ⊢
def BR (ρ : Ren) (i : Info) (w : World) : Blk → Prop
 | .dead => True
 | .cells cs es lv _ => i.es = es ∧ (∀ j,j < cs.length + i.sh + i.room → (w.cell? ⟨i.blk,j,none⟩).isSome = true ∧ (lv = true → w.frozen? ⟨i.blk,j,none⟩ = false)) ∧
   (∀ (j : Nat) (v : Value),cs[j]? = some v → ∃ v',w.cell? ⟨i.blk,j + i.sh,none⟩ = some v' ∧ VR ρ v v')
 | .map m _ => ∃ (es' : Array MapEntry) (clock : Nat),w.heap[i.blk]? = some (.map es' clock) ∧
   VRs ρ (m.map (·.1)) (es'.toList.map (·.key)) ∧ VRs ρ (m.map (·.2)) (es'.toList.map (·.val)) ∧ (∀ x ∈ es'.toList,x.born < clock) ∧ (es'.toList.map (·.born)).Nodup
 | .iter s pos => i.sh = 0 ∧ w.heap[i.blk]? = some (.stringIter s pos)
theorem cell_of_heap {w w' : World} {b : Nat} (h : w'.heap[b]? = w.heap[b]?) (j : Nat) : w'.cell? ⟨b,j,none⟩ = w.cell? ⟨b,j,none⟩ := by
 simp only [World.cell?,h]
theorem frozen_of_heap {w w' : World} {b : Nat} (h : w'.heap[b]? = w.heap[b]?) (j : Nat) : w'.frozen? ⟨b,j,none⟩ = w.frozen? ⟨b,j,none⟩ := by
 simp only [World.frozen?,h]
theorem BR.keep {ρ ρ' : Ren} (hle : ρ.le ρ') {i : Info} {x : Blk} {w w' : World} (e : w'.heap[i.blk]? = w.heap[i.blk]?) (h : BR ρ i w x) : BR ρ' i w' x := by
 cases x with
 | dead => trivial
 | cells cs es l a =>
  obtain ⟨h1,h2,h3⟩ := h
  refine ⟨h1,fun j hj => ?_,fun j v hj => ?_⟩
  ·rw [cell_of_heap e,frozen_of_heap e];exact h2 j hj
  ·rw [cell_of_heap e];obtain ⟨v',a,b⟩ := h3 j v hj;exact ⟨v',a,b.mono hle⟩
 | map m l =>
  obtain ⟨es',clock,h1,h2,h3,h4⟩ := h
  exact ⟨es',clock,e.trans h1,h2.mono hle,h3.mono hle,h4⟩
 | iter s pos => exact ⟨h.1,e.trans h.2⟩
theorem BR.mono {ρ ρ' : Ren} (hle : ρ.le ρ') {i : Info} {x : Blk} {w : World} (h : BR ρ i w x) : BR ρ' i w x := h.keep hle rfl
def gN : Nat := 9
def Glb (ρ : Ren) : Prop := ∀ g,g < gN → ρ g = some ⟨g,0,0,0⟩
theorem Glb.mono {ρ ρ' : Ren} (hle : ρ.le ρ') (h : Glb ρ) : Glb ρ' := fun g hg => hle _ _ (h g hg)
structure Rel0 (ρ : Ren) (h : H) (w : World) : Prop where
 dom : ∀ b i,ρ b = some i → b < h.size
 bnd : ∀ b i,ρ b = some i → i.blk < w.heap.size
 blk : ∀ b i x,ρ b = some i → h[b]? = some x → BR ρ i w x
 sep : ∀ b c i j x y,ρ b = some i → ρ c = some j → i.blk = j.blk → b ≠ c → h[b]? = some x → h[c]? = some y → x.isDead = false → y.isDead = false →
  (b ∈ y.ancs ∧ x.isLive = false ∧ x.len + i.sh ≤ y.len + j.sh) ∨ (c ∈ x.ancs ∧ y.isLive = false ∧ y.len + j.sh ≤ x.len + i.sh)
 anc : ∀ b i x a,ρ b = some i → h[b]? = some x → a ∈ x.ancs → ρ a ≠ none
 glb : Glb ρ
def gTab : Nat := 4
def gTabL : List Int := [1,10,100,1000,10000,100000,1000000,10000000,100000000,1000000000,10000000000,100000000000,1000000000000,10000000000000,100000000000000,1000000000000000,10000000000000000,100000000000000000,1000000000000000000,10000000000000000000]
structure GT (ρ : Ren) (h : H) (w : World) : Prop where
 dead : ∀ b i x,ρ b = some i → i.blk < gN → h[b]? = some x → x.isLive = false
 tab : ∃ t fr,w.heap[gTab]? = some (.cells (gTabL.map fun z => Value.int .u64 z).toArray t fr)
structure Rel (ρ : Ren) (h : H) (w : World) : Prop extends Rel0 ρ h w where
 gt : GT ρ h w
structure Ext (ρ : Ren) (h : H) (w : World) (ρ' : Ren) (h' : H) (w' : World) : Prop where
 le : ρ.le ρ'
 hsz : h.size ≤ h'.size
 wsz : w.heap.size ≤ w'.heap.size
 af : ∀ b,b < h.size → ρ b = none → h'[b]? = h[b]?
 cf : ∀ b',b' < w.heap.size → (∀ b i x,ρ b = some i → i.blk = b' → h[b]? = some x → x.isLive = false) → w'.heap[b']? = w.heap[b']?
 nw : ∀ b i,ρ' b = some i → ρ b = some i ∨ (h.size ≤ b ∧ (w.heap.size ≤ i.blk ∨ ∃ b0 i0 x,ρ b0 = some i0 ∧ i0.blk = i.blk ∧ h[b0]? = some x ∧ x.isLive = true))
 dull : ∀ b x x',b < h.size → h[b]? = some x → h'[b]? = some x' → x.isLive = false → x'.isLive = false
 io : w'.os = w.os ∧ w'.output = w.output
theorem Rel.gsize {ρ : Ren} {h : H} {w : World} (r : Rel ρ h w) : gN ≤ w.heap.size := by
 have h1 := r.glb (gN - 1) (by decide)
 have h2 : gN - 1 < w.heap.size := r.bnd _ _ h1
 have h3 : 0 < gN := by decide
 omega
theorem upg {ρ ρ' : Ren} {h h' : H} {w w' : World} (r : Rel ρ h w) (r' : Rel0 ρ' h' w') (x : Ext ρ h w ρ' h' w') : Rel ρ' h' w' := by
 refine ⟨r',fun b i y hb hi hy => ?_,?_⟩
 ·rcases x.nw b i hb with h0 | ⟨_,h1 | ⟨b0,i0,z,h1,h2,h3,h4⟩⟩
  ·have hlt := r.dom b i h0
   have hz : ∃ z,h[b]? = some z := ⟨h[b],by simp [hlt]⟩
   obtain ⟨z,hz⟩ := hz
   exact x.dull b z y hlt hz hy (r.gt.dead b i z h0 hi hz)
  ·have := r.gsize;omega
  ·have := r.gt.dead b0 i0 z h1 (by omega) h3
   rw [this] at h4;cases h4
 ·obtain ⟨t,fr,ht⟩ := r.gt.tab
  refine ⟨t,fr,?_⟩
  rw [x.cf gTab (Nat.lt_of_lt_of_le (by decide) r.gsize) fun b i y hb hi hy => r.gt.dead b i y hb (by rw [hi];decide) hy]
  exact ht
theorem upg2 {ρ ρ' : Ren} {h h' : H} {w w' : World} (r : Rel ρ h w) (x : Rel0 ρ' h' w' ∧ Ext ρ h w ρ' h' w') : Rel ρ' h' w' ∧ Ext ρ h w ρ' h' w' := ⟨upg r x.1 x.2,x.2⟩
theorem Ext.refl (ρ : Ren) (h : H) (w : World) : Ext ρ h w ρ h w where
 le := .refl _
 hsz := Nat.le_refl _
 wsz := Nat.le_refl _
 af := fun _ _ _ => rfl
 cf := fun _ _ _ => rfl
 nw := fun _ _ h => .inl h
 dull := fun _ _ _ _ h1 h2 h3 => by rw [h1] at h2;cases h2;exact h3
 io := ⟨rfl,rfl⟩
theorem Ext.trans {ρ ρ1 ρ2 : Ren} {h h1 h2 : H} {w w1 w2 : World} (r : Rel ρ h w) (a : Ext ρ h w ρ1 h1 w1) (b : Ext ρ1 h1 w1 ρ2 h2 w2) : Ext ρ h w ρ2 h2 w2 where
 le := a.le.trans b.le
 hsz := Nat.le_trans a.hsz b.hsz
 wsz := Nat.le_trans a.wsz b.wsz
 af := fun x hx hn => by
  have e1 := a.af x hx hn
  rcases hr : ρ1 x with _ | i
  ·rw [b.af x (Nat.lt_of_lt_of_le hx a.hsz) hr,e1]
  ·rcases a.nw x i hr with h0 | ⟨h0,_⟩
   ·rw [hn] at h0;cases h0
   ·omega
 cf := fun b' hb hl => by
  rw [b.cf b' (Nat.lt_of_lt_of_le hb a.wsz) ?_,a.cf b' hb hl]
  intro x i y hx hi hy
  rcases a.nw x i hx with h0 | ⟨_,h1 | ⟨b0,i0,z,h1,h2,h3,h4⟩⟩
  ·have hlt := r.dom x i h0
   have : ∃ z,h[x]? = some z := ⟨h[x],by simp [hlt]⟩
   obtain ⟨z,hz⟩ := this
   exact a.dull x z y hlt hz hy (hl x i z h0 hi hz)
  ·omega
  ·have := hl b0 i0 z h1 (h2.trans hi) h3
   rw [this] at h4;cases h4
 nw := fun x i hx => by
  rcases b.nw x i hx with h0 | ⟨h0,h1⟩
  ·rcases a.nw x i h0 with h2 | ⟨h2,h3⟩
   ·exact .inl h2
   ·exact .inr ⟨h2,h3⟩
  ·refine .inr ⟨Nat.le_trans a.hsz h0,?_⟩
   rcases h1 with h1 | ⟨b0,i0,y,h2,h3,h4,h5⟩
   ·exact .inl (Nat.le_trans a.wsz h1)
   ·rcases a.nw b0 i0 h2 with h6 | ⟨h6,h7 | ⟨b1,i1,z,g1,g2,g3,g4⟩⟩
    ·refine .inr ⟨b0,i0,h[b0]'(r.dom _ _ h6),h6,h3,by simp [r.dom _ _ h6],?_⟩
     cases hc : (h[b0]'(r.dom _ _ h6)).isLive with
     | true => rfl
     | false =>
      have := a.dull b0 (h[b0]'(r.dom _ _ h6)) y (r.dom _ _ h6) (by simp [r.dom _ _ h6]) h4 hc
      rw [this] at h5;cases h5
    ·exact .inl (by omega)
    ·exact .inr ⟨b1,i1,z,g1,g2.trans h3,g3,g4⟩
 dull := fun x y y' hx h1' h2' hd => by
  have hx1 := Nat.lt_of_lt_of_le hx a.hsz
  obtain ⟨z,hz⟩ : ∃ z,h1[x]? = some z := ⟨h1[x],by simp [hx1]⟩
  exact b.dull x z y' hx1 hz h2' (a.dull x y z hx h1' hz hd)
 io := ⟨b.io.1.trans a.io.1,b.io.2.trans a.io.2⟩
end Go.Ev
