/- Texts of the proofs over heraldlaw20, put together by a program (merge20.py): Ev1. -/
import Derived.Test.YtalamcchkkdelaaGreatDoorC0
import Derived.Deep.AppendSrc
import Derived.Deep.MidRow
set_option linter.unusedVariables false
set_option linter.unusedSimpArgs false
namespace Go.Ev
theorem heap_setCell_other (w : World) (a : Addr) (v : Value) {j : Nat} (h : j ≠ a.block) : (w.setCell a v).heap[j]? = w.heap[j]? := by
 simp only [World.setCell]
 rw [Array.getElem?_modify]
 simp [Ne.symm h]
theorem heap_setCells_other (b : Nat) : ∀ (vs : List Value) (o : Nat) (w : World) (j : Nat),j ≠ b → (w.setCells b o vs).heap[j]? = w.heap[j]?
 | [],_,_,_,_ => rfl
 | v :: r,o,w,j,h => by
  rw [World.setCells,heap_setCells_other b r _ _ j h,heap_setCell_other _ _ _ h]
theorem size_setCells (b : Nat) : ∀ (vs : List Value) (o : Nat) (w : World),(w.setCells b o vs).heap.size = w.heap.size
 | [],_,_ => rfl
 | v :: r,o,w => by rw [World.setCells,size_setCells b r];simp [World.setCell]
theorem io_setCells (b : Nat) : ∀ (vs : List Value) (o : Nat) (w : World),(w.setCells b o vs).os = w.os ∧ (w.setCells b o vs).output = w.output
 | [],_,_ => ⟨rfl,rfl⟩
 | v :: r,o,w => by rw [World.setCells];exact io_setCells b r _ _
theorem oneCell'_of {v : Value} (h : (∀ c,v ≠ .agg c) ∧ (∀ c,v ≠ .tuple c)) : v.oneCell' = true := by
 cases v <;> simp_all [Value.oneCell']
theorem VRs.one {ρ : Ren} : ∀ {l l' : List Value},VRs ρ l l' → l.all oneCell = true → ∀ u ∈ l',u.oneCell' = true
 | _,_,.nil,_,u,hu => by cases hu
 | _,_,.cons h t,ha,u,hu => by
  rw [List.all_cons,Bool.and_eq_true] at ha
  cases hu with
  | head => exact oneCell'_of (h.oneCell ha.1)
  | tail _ hu => exact t.one ha.2 u hu
abbrev Env := List (Nat × Value)
def Env.get : Env → Nat → Value
 | [],_ => junk
 | (k,v) :: r,t => bif k == t then v else Env.get r t
def Env.keep (s : Env) (ts : List Nat) : Env := ts.map fun t => (t,s.get t)
structure EnvRel (ρ : Ren) (n : Nat) (s : Env) (tmps : Array Value) : Prop where
 sz : tmps.size = n
 vals : ∀ t,VR ρ (s.get t) (tmps.getD t undef)
 glb : Glb ρ
theorem EnvRel.mono {ρ ρ' : Ren} (hle : ρ.le ρ') {n : Nat} {s : Env} {tmps : Array Value} (h : EnvRel ρ n s tmps) : EnvRel ρ' n s tmps := ⟨h.1,fun t => (h.2 t).mono hle,h.3.mono hle⟩
theorem get_keep (s : Env) : ∀ (ts : List Nat) (t : Nat),(s.keep ts).get t = s.get t ∨ (s.keep ts).get t = junk
 | [],t => .inr rfl
 | k :: r,t => by
  simp only [Env.keep,List.map_cons,Env.get]
  by_cases e : k = t
  ·subst e;simp
  ·have : (k == t) = false := by simpa using e
   rw [this];exact get_keep s r t
theorem EnvRel.keep {ρ : Ren} {n : Nat} {s : Env} {tmps : Array Value} (h : EnvRel ρ n s tmps) (ts : List Nat) : EnvRel ρ n (s.keep ts) tmps := ⟨h.1,fun t => by
 rcases get_keep s ts t with e | e <;> rw [e]
 ·exact h.2 t
 ·exact .junk _,h.3⟩
def konst : Value → Value
 | .bool b => .bool b
 | .int k n => .int k n
 | .string s => .string s
 | .pointer none => .pointer none
 | .slice none 0 0 => .slice none 0 0
 | .map none => .map none
 | .nilFunc => .nilFunc
 | .nilIface => .nilIface
 | _ => junk
theorem konst_sound (ρ : Ren) (v : Value) : VR ρ (konst v) v := by
 unfold konst
 split <;> first | exact .junk _ | constructor
def aeval (s : Env) : Operand → Value
 | .tmp t => s.get t
 | .const v => konst v
 | .func f => .func (.func f) #[] #[]
 | .global g => if g < gN then .pointer (some ⟨g,0,none⟩) else junk
theorem aeval_sound {ρ : Ren} {n : Nat} {s : Env} {a : Act} (h : EnvRel ρ n s a.tmps) (x : Operand) : VR ρ (aeval s x) (a.eval x) := by
 cases x with
 | tmp t => exact h.2 t
 | const v => exact konst_sound ρ v
 | func f => exact .func .nil .nil
 | global g =>
  simp only [aeval]
  split
  ·rename_i hg
   exact VR.ptr (i := ⟨g,0,0,0⟩) (h.3 g hg)
  ·exact .junk _
theorem aeval_map {ρ : Ren} {n : Nat} {s : Env} {a : Act} (h : EnvRel ρ n s a.tmps) : ∀ l : List Operand,VRs ρ (l.map (aeval s)) (l.map a.eval)
 | [] => .nil
 | x :: l => .cons (aeval_sound h x) (aeval_map h l)
theorem EnvRel.put {ρ : Ren} {n : Nat} {s : Env} {a : Act} (h : EnvRel ρ n s a.tmps) {v v' : Value} (hv : VR ρ v v') {d : Nat} (hd : d < n) : EnvRel ρ n ((d,v) :: s) (a.put (some d) v').tmps := by
 refine ⟨by simp [Act.put,h.1],fun t => ?_,h.3⟩
 simp only [Env.get,Act.put,Array.getD_eq_getD_getElem?]
 by_cases e : d = t
 ·subst e
  have hb : d < a.tmps.size := by rw [h.1];exact hd
  simp [hb];exact hv
 ·have : (d == t) = false := by simpa using e
  rw [this,Array.getElem?_setIfInBounds_ne e]
  have := h.2 t
  simpa [Array.getD_eq_getD_getElem?] using this
def rd (h : H) (b o n : Nat) : Option (List Value) :=
 match h[b]? with
 | some (.cells cs _ _ _) => if o + n ≤ cs.length then some ((cs.drop o).take n) else none
 | _ => none
theorem rd_rel {ρ : Ren} {h : H} {w : World} (r : Rel ρ h w) {b : Nat} {i : Info} (hb : ρ b = some i) {o n : Nat} {l : List Value} (e : rd h b o n = some l) :
  l.length = n ∧ ∃ l',VRs ρ l l' ∧ ∀ j v',l'[j]? = some v' → w.cell? ⟨i.blk,o + i.sh + j,none⟩ = some v' := by
 unfold rd at e
 split at e
 ·rename_i cs es lv an hx
  split at e
  ·rename_i hle
   cases e
   obtain ⟨_,_,hc⟩ := r.blk b i _ hb hx
   have hlen : ((cs.drop o).take n).length = n := by simp;omega
   refine ⟨hlen,(List.range n).map (fun j => (w.cell? ⟨i.blk,o + i.sh + j,none⟩).getD undef),VRs.of_get (by simp;omega) ?_,?_⟩
   ·intro j v hj
    have hjn : j < n := by
     have := (List.getElem?_eq_some_iff.1 hj).1
     omega
    have hv : cs[o + j]? = some v := by
     rw [List.getElem?_take,if_pos hjn,List.getElem?_drop] at hj;exact hj
    obtain ⟨v',h1,h2⟩ := hc (o + j) v hv
    have e1 : o + j + i.sh = o + i.sh + j := by omega
    rw [e1] at h1
    exact ⟨v',by simp [hjn,h1],h2⟩
   ·intro j v' hj
    have hjn : j < n := by
     have := (List.getElem?_eq_some_iff.1 hj).1
     simpa using this
    have hlt : o + j < cs.length := by omega
    obtain ⟨u,h1,_⟩ := hc (o + j) cs[o + j] (by simp [hlt])
    have e1 : o + j + i.sh = o + i.sh + j := by omega
    rw [e1] at h1
    simp [hjn,h1] at hj
    rw [h1,hj]
  ·cases e
 ·cases e
def kill (h : H) : List Nat → H
 | [] => h
 | a :: r => kill (h.setIfInBounds a .dead) r
theorem kill_size : ∀ (l : List Nat) (h : H),(kill h l).size = h.size
 | [],_ => rfl
 | a :: r,h => by rw [kill,kill_size r];simp
theorem kill_get : ∀ (l : List Nat) (h : H) (b : Nat),(kill h l)[b]? = if b ∈ l ∧ b < h.size then some .dead else h[b]?
 | [],_,_ => by simp [kill]
 | a :: r,h,b => by
  rw [kill,kill_get r]
  by_cases e : a = b
  ·subst e
   by_cases hb : a < h.size
   ·simp [hb]
   ·simp [hb]
  ·rw [Array.getElem?_setIfInBounds_ne e]
   simp [Ne.symm e]
def wr (h : H) (b o : Nat) (vs : List Value) : Option H :=
 match h[b]? with
 | some (.cells cs es true anc) =>
  if o + vs.length ≤ cs.length ∧ vs.all oneCell = true then some ((kill h anc).setIfInBounds b (.cells (cs.take o ++ vs ++ cs.drop (o + vs.length)) es true [])) else none
 | _ => none
theorem splice_get (cs vs : List Value) (o j : Nat) (h : o + vs.length ≤ cs.length) :
  (cs.take o ++ vs ++ cs.drop (o + vs.length))[j]? = if j < o then cs[j]? else if j < o + vs.length then vs[j - o]? else cs[j]? := by
 by_cases h1 : j < o
 ·rw [if_pos h1,List.append_assoc,List.getElem?_append_left (by simp;omega),List.getElem?_take,if_pos h1]
 ·rw [if_neg h1]
  by_cases h2 : j < o + vs.length
  ·rw [if_pos h2,List.getElem?_append_left (by simp;omega),List.getElem?_append_right (by simp;omega)]
   congr 1;simp;omega
  ·rw [if_neg h2,List.getElem?_append_right (by simp;omega),List.getElem?_drop]
   congr 1;simp;omega
theorem wr_rel {ρ : Ren} {h h' : H} {w : World} (r : Rel ρ h w) {b : Nat} {i : Info} (hb : ρ b = some i) {o : Nat} {vs vs' : List Value} (e : wr h b o vs = some h') (hv : VRs ρ vs vs') :
  (∀ j,j < vs'.length → (w.cell? ⟨i.blk,o + i.sh + j,none⟩).isSome = true) ∧ (∀ j,j < vs'.length → w.frozen? ⟨i.blk,o + i.sh + j,none⟩ = false) ∧ (∀ u ∈ vs',u.oneCell' = true) ∧
  Rel ρ h' (w.setCells i.blk (o + i.sh) vs') ∧ Ext ρ h w ρ h' (w.setCells i.blk (o + i.sh) vs') := by
 unfold wr at e
 split at e
 ·rename_i cs es anc hx
  split at e
  ·rename_i hle
   obtain ⟨hle,hone⟩ := hle
   cases e
   have hbr := r.blk b i _ hb hx
   obtain ⟨he,hthere,hc⟩ := hbr
   have hl := hv.length
   have hbs := r.dom b i hb
   have hin : ∀ j,j < vs'.length → (w.cell? ⟨i.blk,o + i.sh + j,none⟩).isSome = true ∧ w.frozen? ⟨i.blk,o + i.sh + j,none⟩ = false := fun j hj => have q := hthere (o + i.sh + j) (by omega);⟨q.1,q.2 rfl⟩
   refine ⟨fun j hj => (hin j hj).1,fun j hj => (hin j hj).2,hv.one hone,upg2 r ⟨?_,?_⟩⟩
   ·refine ⟨fun c k hk => by simp [kill_size];exact r.dom c k hk,fun c k hk => by rw [size_setCells];exact r.bnd c k hk,?_,?_,?_,r.glb⟩
    ·intro c k x hk hcx
     by_cases ecb : c = b
     ·subst ecb
      rw [hb] at hk;cases hk
      rw [Array.getElem?_setIfInBounds_self_of_lt (by simp [kill_size];exact hbs)] at hcx
      cases hcx
      refine ⟨he,fun j hj => ?_,fun j v hj => ?_⟩
      ·have hj' : j < cs.length + i.sh + i.room := by simp at hj;omega
       rw [World.frozen?_setCells]
       refine ⟨?_,(hthere j hj').2⟩
       by_cases hlo : o + i.sh ≤ j ∧ j < o + i.sh + vs'.length
       ·have := World.cell?_setCells_in i.blk vs' (o + i.sh) w (fun q hq => (hin q hq).1) (j - (o + i.sh)) (by omega)
        rw [show o + i.sh + (j - (o + i.sh)) = j by omega] at this
        rw [this];rfl
       ·rw [World.cell?_setCells_out _ _ _ _ _ (fun _ _ => by simp;omega)];exact (hthere j hj').1
      ·rw [splice_get cs vs o j hle] at hj
       by_cases h1 : j < o
       ·rw [if_pos h1] at hj
        rw [World.cell?_setCells_out _ _ _ _ _ (fun _ _ => by simp;omega)];exact hc j v hj
       ·rw [if_neg h1] at hj
        by_cases h2 : j < o + vs.length
        ·rw [if_pos h2] at hj
         obtain ⟨v',g1,g2⟩ := hv.get hj
         have hjl : j - o < vs'.length := by omega
         have := World.cell?_setCells_in i.blk vs' (o + i.sh) w (fun q hq => (hin q hq).1) (j - o) hjl
         rw [show o + i.sh + (j - o) = j + i.sh by omega] at this
         refine ⟨v',?_,g2⟩
         rw [this,← g1];simp [hjl]
        ·rw [if_neg h2] at hj
         rw [World.cell?_setCells_out _ _ _ _ _ (fun _ _ => by simp;omega)];exact hc j v hj
     ·rw [Array.getElem?_setIfInBounds_ne (Ne.symm ecb),kill_get] at hcx
      split at hcx
      ·cases hcx;trivial
      ·rename_i hnk
       by_cases ek : k.blk = i.blk
       ·
        have hlt := r.dom c k hk
        by_cases hd : x.isDead = true
        ·cases x <;> simp [Blk.isDead] at hd;trivial
        ·have hd : x.isDead = false := by simpa using hd
         rcases r.sep c b k i x _ hk hb ek ecb hcx hx hd rfl with ⟨g1,_⟩ | ⟨_,g2,_⟩
         ·simp [Blk.ancs] at g1
          exact absurd ⟨g1,hlt⟩ hnk
         ·simp [Blk.isLive] at g2
       ·exact (r.blk c k x hk hcx).keep (.refl _) (heap_setCells_other _ _ _ _ _ ek)
    ·intro c d k l x y hk hl' hkl hne hcx hdy hxd hyd
     have back : ∀ {c x},((kill h anc).setIfInBounds b (.cells (cs.take o ++ vs ++ cs.drop (o + vs.length)) es true []))[c]? = some x → x.isDead = false → c ≠ b → h[c]? = some x ∧ ¬ (c ∈ anc ∧ c < h.size) := by
      intro c x hcx hxd hcb
      rw [Array.getElem?_setIfInBounds_ne (Ne.symm hcb),kill_get] at hcx
      split at hcx
      ·cases hcx;simp [Blk.isDead] at hxd
      ·rename_i hn;exact ⟨hcx,hn⟩
     by_cases hcb : c = b
     ·subst hcb
      obtain ⟨hdy',hn⟩ := back hdy hyd (Ne.symm hne)
      rw [hb] at hk;cases hk
      rcases r.sep c d i l _ y hb hl' hkl hne hx hdy' rfl hyd with ⟨_,g,_⟩ | ⟨g,_⟩
      ·simp [Blk.isLive] at g
      ·simp [Blk.ancs] at g;exact absurd ⟨g,r.dom d l hl'⟩ hn
     ·by_cases hdb : d = b
      ·subst hdb
       obtain ⟨hcx',hn⟩ := back hcx hxd hcb
       rw [hb] at hl';cases hl'
       rcases r.sep c d k i x _ hk hb hkl hne hcx' hx hxd rfl with ⟨g,_⟩ | ⟨_,g,_⟩
       ·simp [Blk.ancs] at g;exact absurd ⟨g,r.dom c k hk⟩ hn
       ·simp [Blk.isLive] at g
      ·exact r.sep c d k l x y hk hl' hkl hne (back hcx hxd hcb).1 (back hdy hyd hdb).1 hxd hyd
    ·intro c k x a hk hcx ha
     by_cases ecb : c = b
     ·subst ecb
      rw [Array.getElem?_setIfInBounds_self_of_lt (by simp [kill_size];exact hbs)] at hcx
      cases hcx;simp [Blk.ancs] at ha
     ·rw [Array.getElem?_setIfInBounds_ne (Ne.symm ecb),kill_get] at hcx
      split at hcx
      ·cases hcx;simp [Blk.ancs] at ha
      ·exact r.anc c k x a hk hcx ha
   ·refine ⟨.refl _,by simp [kill_size],by rw [size_setCells];exact Nat.le_refl _,?_,?_,fun _ _ h => .inl h,?_,io_setCells _ _ _ _⟩
    ·intro c hcl hn
     have hcb : c ≠ b := fun e => by subst e;rw [hb] at hn;cases hn
     rw [Array.getElem?_setIfInBounds_ne (Ne.symm hcb),kill_get,if_neg]
     intro hm
     exact r.anc b i _ c hb hx (by simpa [Blk.ancs] using hm.1) hn
    ·intro b' hb' hl'
     apply heap_setCells_other
     intro e;subst e
     have := hl' b i _ hb rfl hx
     simp [Blk.isLive] at this
    ·intro c x x' hcl h1 h2 h3
     by_cases ecb : c = b
     ·subst ecb;rw [hx] at h1;cases h1;simp [Blk.isLive] at h3
     ·rw [Array.getElem?_setIfInBounds_ne (Ne.symm ecb),kill_get] at h2
      split at h2
      ·cases h2;rfl
      ·rw [h1] at h2;cases h2;exact h3
  ·cases e
 ·cases e
theorem heap_alloc' (w : World) (o : Obj) : (w.alloc o).heap = w.heap.push o := rfl
theorem heap_alloc_new (w : World) (o : Obj) : (w.alloc o).heap[w.heap.size]? = some o := by rw [heap_alloc'];simp
def Ren.put (ρ : Ren) (n : Nat) (i : Info) : Ren := fun b => if b = n then some i else ρ b
theorem Rel.fresh {ρ : Ren} {h : H} {w : World} (r : Rel ρ h w) : ρ h.size = none := by
 cases e : ρ h.size with
 | none => rfl
 | some i => exact absurd (r.dom _ _ e) (Nat.lt_irrefl _)
theorem Rel.put_le {ρ : Ren} {h : H} {w : World} (r : Rel ρ h w) (i : Info) : ρ.le (ρ.put h.size i) := fun b j hb => by
 have : b ≠ h.size := Nat.ne_of_lt (r.dom _ _ hb)
 simp [Ren.put,this,hb]
theorem push_rel {ρ : Ren} {h : H} {w : World} (r : Rel ρ h w) (o : Obj) (x : Blk) (i : Info) (hi : i.blk = w.heap.size) (hx : BR (ρ.put h.size i) i (w.alloc o) x) (ha : ∀ a ∈ x.ancs,ρ a ≠ none) :
  Rel (ρ.put h.size i) (h.push x) (w.alloc o) ∧ Ext ρ h w (ρ.put h.size i) (h.push x) (w.alloc o) := by
 have hle := r.put_le i
 have hold : ∀ j,j < w.heap.size → (w.alloc o).heap[j]? = w.heap[j]? := fun j hj => by
  rw [heap_alloc',Array.getElem?_push,if_neg (Nat.ne_of_lt hj)]
 have hsz : (w.alloc o).heap.size = w.heap.size + 1 := by rw [heap_alloc'];simp
 have back : ∀ {b k},ρ.put h.size i b = some k → (b = h.size ∧ k = i) ∨ (b ≠ h.size ∧ ρ b = some k) := by
  intro b k hb
  unfold Ren.put at hb
  split at hb
  ·cases hb;exact .inl ⟨‹_›,rfl⟩
  ·exact .inr ⟨‹_›,hb⟩
 have hget : ∀ {b : Nat},b ≠ h.size → (h.push x)[b]? = h[b]? := by
  intro b hb
  rw [Array.getElem?_push,if_neg hb]
 have hgetn : (h.push x)[h.size]? = some x := by simp
 refine upg2 r ⟨⟨?_,?_,?_,?_,?_,r.glb.mono hle⟩,⟨hle,by simp,by omega,?_,?_,?_,?_,⟨rfl,rfl⟩⟩⟩
 ·intro b k hb
  rcases back hb with ⟨rfl,_⟩ | ⟨_,h1⟩
  ·simp
  ·have := r.dom _ _ h1;simp;omega
 ·intro b k hb
  rcases back hb with ⟨_,rfl⟩ | ⟨_,h1⟩
  ·omega
  ·have := r.bnd _ _ h1;omega
 ·intro b k y hb hy
  rcases back hb with ⟨rfl,rfl⟩ | ⟨hne,h1⟩
  ·rw [hgetn] at hy;cases hy;exact hx
  ·rw [hget hne] at hy
   exact (r.blk b k y h1 hy).keep hle (hold _ (r.bnd _ _ h1))
 ·intro b c k l y z hb hc hkl hne hy hz hyd hzd
  rcases back hb with ⟨rfl,rfl⟩ | ⟨hb1,hb2⟩
  ·rcases back hc with ⟨rfl,rfl⟩ | ⟨hc1,hc2⟩
   ·exact absurd rfl hne
   ·have := r.bnd _ _ hc2;omega
  ·rcases back hc with ⟨rfl,rfl⟩ | ⟨hc1,hc2⟩
   ·have := r.bnd _ _ hb2;omega
   ·rw [hget hb1] at hy;rw [hget hc1] at hz
    exact r.sep b c k l y z hb2 hc2 hkl hne hy hz hyd hzd
 ·intro b k y a hb hy hay
  have : ρ a ≠ none := by
   rcases back hb with ⟨rfl,rfl⟩ | ⟨hb1,hb2⟩
   ·rw [hgetn] at hy;cases hy;exact ha a hay
   ·rw [hget hb1] at hy;exact r.anc b k y a hb2 hy hay
  cases e : ρ a with
  | none => exact absurd e this
  | some q => rw [hle a q e];simp
 ·intro b hb hn;exact hget (Nat.ne_of_lt hb)
 ·intro b' hb' _;exact hold b' hb'
 ·intro b k hb
  rcases back hb with ⟨rfl,rfl⟩ | ⟨_,h1⟩
  ·exact .inr ⟨Nat.le_refl _,.inl (by omega)⟩
  ·exact .inl h1
 ·intro b y y' hb h1 h2 h3
  rw [hget (Nat.ne_of_lt hb),h1] at h2;cases h2;exact h3
theorem Rel.drew {ρ : Ren} {h : H} {w : World} (r : Rel ρ h w) : Rel ρ h w.drew :=
 ⟨⟨r.dom,r.bnd,fun b i x hb hx => (r.blk b i x hb hx).keep (.refl _) rfl,r.sep,r.anc,r.glb⟩,⟨r.gt.dead,r.gt.tab⟩⟩
theorem Ext.drew {ρ ρ' : Ren} {h h' : H} {w w' : World} (r : Ext ρ h w ρ' h' w') : Ext ρ h w ρ' h' w'.drew :=
 ⟨r.le,r.hsz,r.wsz,r.af,r.cf,r.nw,r.dull,r.io⟩
theorem Rel.drawn {ρ : Ren} {h : H} {w : World} (r : Rel ρ h w) (n : Nat) : Rel ρ h { w with drawn := n } :=
 ⟨⟨r.dom,r.bnd,fun b i x hb hx => (r.blk b i x hb hx).keep (.refl _) rfl,r.sep,r.anc,r.glb⟩,⟨r.gt.dead,r.gt.tab⟩⟩
theorem row_rel {ρ : Ren} {h : H} {w : World} (r : Rel ρ h w) (cs : List Value) (cs' : Array Value) (e : TypeId) (es : Nat) (lv : Bool) (anc : List Nat) (ha : ∀ a ∈ anc,ρ a ≠ none) (room : Nat)
  (hv : VRs ρ cs (cs'.toList.take cs.length)) (hl : cs.length + room ≤ cs'.size) (i : Info) (hi : i = ⟨w.heap.size,0,es,room⟩) :
  Rel (ρ.put h.size i) (h.push (.cells cs es lv anc)) (w.alloc (.cells cs' e)) ∧ Ext ρ h w (ρ.put h.size i) (h.push (.cells cs es lv anc)) (w.alloc (.cells cs' e)) := by
 subst hi
 have hnew := heap_alloc_new w (.cells cs' e)
 refine push_rel r _ _ _ rfl ⟨rfl,fun j hj => ?_,fun j v hj => ?_⟩ ha
 ·have hjl : j < cs'.size := by simp at hj;omega
  constructor
  ·simp only [World.cell?,hnew];simp [hjl]
  ·simp only [World.frozen?,hnew];simp
 ·obtain ⟨v',h1,h2⟩ := hv.get hj
  have hjl : j < cs.length := (List.getElem?_eq_some_iff.1 hj).1
  rw [List.getElem?_take,if_pos hjl] at h1
  refine ⟨v',?_,h2.mono (r.put_le _)⟩
  simp only [World.cell?,hnew]
  simpa using h1
theorem grow_rel {ρ : Ren} {h h1 : H} {w : World} (r : Rel ρ h w) {b : Nat} {i : Info} (hb : ρ b = some i) {cs : List Value} {es : Nat} {anc anc' : List Nat} (hx : h[b]? = some (.cells cs es true anc))
  {o l : Nat} (ho : o + l ≤ cs.length) {vs vs' : List Value} (hv : VRs ρ vs vs') (hone : vs.all oneCell = true) (hroom : o + l + vs.length ≤ cs.length + i.room)
  (hsz : h1.size = h.size) (R1 : ∀ c x,h1[c]? = some x → x.isDead = true ∨ (c ≠ b ∧ h[c]? = some x) ∨ (c = b ∧ x = .cells cs es false anc ∧ o + l = cs.length))
  (R2 : ∀ c,ρ c = none → h1[c]? = h[c]?) (R4 : ∀ a ∈ anc',a = b ∨ a ∈ anc) (R5 : ∀ c x,h1[c]? = some x → x.isDead = false → c = b ∨ c ∈ anc → c < h.size → c ∈ anc' ∧ o + l = cs.length)
  (room : Nat) (hr2 : o + l + vs.length + room ≤ cs.length + i.room) (i' : Info) (hi' : i' = ⟨i.blk,i.sh + o,es,room⟩) :
  (∀ j,j < vs'.length → (w.cell? ⟨i.blk,o + i.sh + l + j,none⟩).isSome = true) ∧ (∀ j,j < vs'.length → w.frozen? ⟨i.blk,o + i.sh + l + j,none⟩ = false) ∧ (∀ u ∈ vs',u.oneCell' = true) ∧
  Rel (ρ.put h.size i') (h1.push (.cells ((cs.drop o).take l ++ vs) es true anc')) (w.setCells i.blk (o + i.sh + l) vs') ∧
  Ext ρ h w (ρ.put h.size i') (h1.push (.cells ((cs.drop o).take l ++ vs) es true anc')) (w.setCells i.blk (o + i.sh + l) vs') := by
 subst hi'
 obtain ⟨he,hthere,hc⟩ := r.blk b i _ hb hx
 have hl := hv.length
 have hin : ∀ j,j < vs'.length → (w.cell? ⟨i.blk,o + i.sh + l + j,none⟩).isSome = true ∧ w.frozen? ⟨i.blk,o + i.sh + l + j,none⟩ = false := fun j hj => have q := hthere (o + i.sh + l + j) (by omega);⟨q.1,q.2 rfl⟩
 have hle := r.put_le ⟨i.blk,i.sh + o,es,room⟩
 have back : ∀ {c k},ρ.put h.size ⟨i.blk,i.sh + o,es,room⟩ c = some k → (c = h.size ∧ k = ⟨i.blk,i.sh + o,es,room⟩) ∨ (c ≠ h.size ∧ ρ c = some k) := by
  intro c k hk
  unfold Ren.put at hk
  split at hk
  ·cases hk;exact .inl ⟨‹_›,rfl⟩
  ·exact .inr ⟨‹_›,hk⟩
 have hget : ∀ {c : Nat} {x : Blk},c ≠ h.size → (h1.push x)[c]? = h1[c]? := by
  intro c x hcn
  rw [Array.getElem?_push,if_neg (by omega)]
 have hgetn : ∀ {x : Blk},(h1.push x)[h.size]? = some x := by intro x;rw [← hsz];simp
 have hlen : ((cs.drop o).take l ++ vs).length = l + vs.length := by simp;omega
 have same : ∀ {c k x},ρ c = some k → h[c]? = some x → x.isDead = false → k.blk = i.blk → c ≠ b → c ∈ anc ∧ x.isLive = false ∧ x.len + k.sh ≤ cs.length + i.sh := by
  intro c k x hk hcx hd ek hcb
  rcases r.sep c b k i x _ hk hb ek hcb hcx hx hd rfl with ⟨g1,g2,g3⟩ | ⟨_,g2,_⟩
  ·exact ⟨g1,g2,g3⟩
  ·simp [Blk.isLive] at g2
 refine ⟨fun j hj => (hin j hj).1,fun j hj => (hin j hj).2,hv.one hone,upg2 r ⟨⟨?_,?_,?_,?_,?_,r.glb.mono hle⟩,⟨hle,by simp [hsz],by rw [size_setCells];exact Nat.le_refl _,?_,?_,?_,?_,io_setCells _ _ _ _⟩⟩⟩
 ·intro c k hk
  rcases back hk with ⟨rfl,_⟩ | ⟨_,h2⟩
  ·simp [hsz]
  ·have := r.dom _ _ h2;simp [hsz];omega
 ·intro c k hk
  rw [size_setCells]
  rcases back hk with ⟨_,rfl⟩ | ⟨_,h2⟩
  ·exact r.bnd b i hb
  ·exact r.bnd _ _ h2
 ·intro c k x hk hcx
  rcases back hk with ⟨rfl,rfl⟩ | ⟨hne,hk⟩
  ·rw [hgetn] at hcx;cases hcx
   refine ⟨rfl,fun j hj => ?_,fun j v hj => ?_⟩
   ·rw [hlen] at hj
    have hj' : j < cs.length + i.sh + i.room := by simp at hj;omega
    rw [World.frozen?_setCells]
    refine ⟨?_,(hthere j hj').2⟩
    by_cases hlo : o + i.sh + l ≤ j ∧ j < o + i.sh + l + vs'.length
    ·have := World.cell?_setCells_in i.blk vs' (o + i.sh + l) w (fun q hq => (hin q hq).1) (j - (o + i.sh + l)) (by omega)
     rw [show o + i.sh + l + (j - (o + i.sh + l)) = j by omega] at this
     simp only at this ⊢
     rw [this];rfl
    ·rw [World.cell?_setCells_out _ _ _ _ _ (fun _ _ => by simp;omega)];exact (hthere j hj').1
   ·by_cases h2 : j < l
    ·rw [List.getElem?_append_left (by simp;omega),List.getElem?_take,if_pos h2,List.getElem?_drop] at hj
     obtain ⟨v',g1,g2⟩ := hc (o + j) v hj
     refine ⟨v',?_,g2.mono hle⟩
     rw [World.cell?_setCells_out _ _ _ _ _ (fun _ _ => by simp;omega)]
     rw [show j + (i.sh + o) = o + j + i.sh by omega];exact g1
    ·rw [List.getElem?_append_right (by simp;omega)] at hj
     have e2 : ((cs.drop o).take l).length = l := by simp;omega
     rw [e2] at hj
     obtain ⟨v',g1,g2⟩ := hv.get hj
     have hjl : j - l < vs'.length := (List.getElem?_eq_some_iff.1 g1).1
     have := World.cell?_setCells_in i.blk vs' (o + i.sh + l) w (fun q hq => (hin q hq).1) (j - l) hjl
     rw [show o + i.sh + l + (j - l) = j + (i.sh + o) by omega] at this
     refine ⟨v',?_,g2.mono hle⟩
     simp only at this ⊢
     rw [this,← g1];simp [hjl]
  ·rw [hget hne] at hcx
   rcases R1 c x hcx with hd | ⟨hcb,hcx'⟩ | ⟨rfl,rfl,hend⟩
   ·cases x <;> simp [Blk.isDead] at hd;trivial
   ·by_cases ek : k.blk = i.blk
    ·by_cases hd : x.isDead = true
     ·cases x <;> simp [Blk.isDead] at hd;trivial
     ·have hd : x.isDead = false := by simpa using hd
      obtain ⟨g1,g2,g3⟩ := same hk hcx' hd ek hcb
      have hend := (R5 c x hcx hd (.inr g1) (r.dom _ _ hk)).2
      cases x with
      | dead => trivial
      | iter t p => simp [Blk.isLive] at g2
      | map m lv =>
       obtain ⟨es',clock,q1,_⟩ := r.blk c k _ hk hcx'
       by_cases hz : 0 < cs.length + i.sh + i.room
       ·have := (hthere 0 hz).1
        rw [← ek] at this
        simp [World.cell?,q1] at this
       ·have e0 : vs' = [] := List.eq_nil_of_length_eq_zero (by omega)
        subst e0
        exact (r.blk c k _ hk hcx').mono hle
      | cells cs2 es2 lv2 anc2 =>
       obtain ⟨q1,q2,q3⟩ := r.blk c k _ hk hcx'
       simp only [Blk.len] at g3
       refine ⟨q1,fun j hj => ?_,fun j v hj => ?_⟩
       ·rw [World.frozen?_setCells]
        refine ⟨?_,(q2 j hj).2⟩
        by_cases hlo : o + i.sh + l ≤ j ∧ j < o + i.sh + l + vs'.length
        ·have := World.cell?_setCells_in i.blk vs' (o + i.sh + l) w (fun q hq => (hin q hq).1) (j - (o + i.sh + l)) (by omega)
         rw [show o + i.sh + l + (j - (o + i.sh + l)) = j by omega] at this
         rw [ek,this];rfl
        ·rw [World.cell?_setCells_out _ _ _ _ _ (fun _ _ => by simp;omega)];exact (q2 j hj).1
       ·obtain ⟨v',q4,q5⟩ := q3 j v hj
        have hjl : j < cs2.length := (List.getElem?_eq_some_iff.1 hj).1
        refine ⟨v',?_,q5.mono hle⟩
        rw [World.cell?_setCells_out _ _ _ _ _ (fun _ _ => by simp;omega)];exact q4
    ·exact (r.blk c k x hk hcx').keep hle (heap_setCells_other _ _ _ _ _ ek)
   ·rw [hb] at hk;cases hk
    refine ⟨he,fun j hj => ?_,fun j v hj => ?_⟩
    ·rw [World.frozen?_setCells]
     refine ⟨?_,fun _ => (hthere j hj).2 rfl⟩
     by_cases hlo : o + i.sh + l ≤ j ∧ j < o + i.sh + l + vs'.length
     ·have := World.cell?_setCells_in i.blk vs' (o + i.sh + l) w (fun q hq => (hin q hq).1) (j - (o + i.sh + l)) (by omega)
      rw [show o + i.sh + l + (j - (o + i.sh + l)) = j by omega] at this
      rw [this];rfl
     ·rw [World.cell?_setCells_out _ _ _ _ _ (fun _ _ => by simp;omega)];exact (hthere j hj).1
    ·obtain ⟨v',q4,q5⟩ := hc j v hj
     have hjl : j < cs.length := (List.getElem?_eq_some_iff.1 hj).1
     refine ⟨v',?_,q5.mono hle⟩
     rw [World.cell?_setCells_out _ _ _ _ _ (fun _ _ => by simp;omega)];exact q4
 ·
  have key : ∀ {c k x},ρ c = some k → h1[c]? = some x → x.isDead = false → k.blk = i.blk → c ∈ anc' ∧ x.isLive = false ∧ x.len + k.sh ≤ l + vs.length + (i.sh + o) := by
   intro c k x hk hcx hd ek
   rcases R1 c x hcx with hd' | ⟨hcb,hcx'⟩ | ⟨rfl,rfl,hend⟩
   ·rw [hd] at hd';cases hd'
   ·obtain ⟨g1,g2,g3⟩ := same hk hcx' hd ek hcb
    obtain ⟨g4,g5⟩ := R5 c x hcx hd (.inr g1) (r.dom _ _ hk)
    exact ⟨g4,g2,by omega⟩
   ·rw [hb] at hk;cases hk
    obtain ⟨g4,g5⟩ := R5 c _ hcx hd (.inl rfl) (r.dom _ _ hb)
    exact ⟨g4,rfl,by simp only [Blk.len];omega⟩
  intro c d k q x y hk hq hkq hne hcx hdy hxd hyd
  rcases back hk with ⟨rfl,rfl⟩ | ⟨hc1,hc2⟩
  ·rw [hgetn] at hcx;cases hcx
   rcases back hq with ⟨rfl,rfl⟩ | ⟨hd1,hd2⟩
   ·exact absurd rfl hne
   ·rw [hget hd1] at hdy
    obtain ⟨g1,g2,g3⟩ := key hd2 hdy hyd hkq.symm
    exact .inr ⟨g1,g2,by rw [show (Blk.cells ((cs.drop o).take l ++ vs) es true anc').len = l + vs.length from hlen];exact g3⟩
  ·rw [hget hc1] at hcx
   rcases back hq with ⟨rfl,rfl⟩ | ⟨hd1,hd2⟩
   ·rw [hgetn] at hdy;cases hdy
    obtain ⟨g1,g2,g3⟩ := key hc2 hcx hxd hkq
    exact .inl ⟨g1,g2,by rw [show (Blk.cells ((cs.drop o).take l ++ vs) es true anc').len = l + vs.length from hlen];exact g3⟩
   ·rw [hget hd1] at hdy
    have old : ∀ {c : Nat} {x : Blk},h1[c]? = some x → x.isDead = false → ∃ x0 : Blk,h[c]? = some x0 ∧ x0.isDead = false ∧ x0.ancs = x.ancs ∧ x0.len = x.len ∧ (x0.isLive = false → x.isLive = false) := by
     intro c x hcx hxd
     rcases R1 c x hcx with hd' | ⟨_,hcx'⟩ | ⟨rfl,rfl,_⟩
     ·rw [hxd] at hd';cases hd'
     ·exact ⟨x,hcx',hxd,rfl,rfl,id⟩
     ·exact ⟨_,hx,rfl,rfl,rfl,fun _ => rfl⟩
    obtain ⟨x0,a1,a2,a3,a4,a5⟩ := old hcx hxd
    obtain ⟨y0,b1,b2,b3,b4,b5⟩ := old hdy hyd
    rcases r.sep c d k q x0 y0 hc2 hd2 hkq hne a1 b1 a2 b2 with ⟨g1,g2,g3⟩ | ⟨g1,g2,g3⟩
    ·exact .inl ⟨by rw [← b3];exact g1,a5 g2,by rw [← a4,← b4];exact g3⟩
    ·exact .inr ⟨by rw [← a3];exact g1,b5 g2,by rw [← a4,← b4];exact g3⟩
 ·intro c k x a hk hcx ha
  have : ρ a ≠ none := by
   have anc_b : ∀ a ∈ anc,ρ a ≠ none := fun a ha => r.anc b i _ a hb hx ha
   rcases back hk with ⟨rfl,rfl⟩ | ⟨hc1,hc2⟩
   ·rw [hgetn] at hcx;cases hcx
    rcases R4 a ha with rfl | h2
    ·rw [hb];simp
    ·exact anc_b a h2
   ·rw [hget hc1] at hcx
    rcases R1 c x hcx with hd' | ⟨_,hcx'⟩ | ⟨rfl,rfl,_⟩
    ·cases x <;> simp [Blk.isDead,Blk.ancs] at hd' ha
    ·exact r.anc c k x a hc2 hcx' ha
    ·exact anc_b a ha
  cases e : ρ a with
  | none => exact absurd e this
  | some q => rw [hle a q e];simp
 ·intro c hcl hn
  rw [hget (Nat.ne_of_lt hcl)];exact R2 c hn
 ·intro b' hb' hl'
  apply heap_setCells_other
  intro e;subst e
  have := hl' b i _ hb rfl hx
  simp [Blk.isLive] at this
 ·intro c k hk
  rcases back hk with ⟨rfl,rfl⟩ | ⟨_,h2⟩
  ·exact .inr ⟨Nat.le_refl _,.inr ⟨b,i,_,hb,rfl,hx,rfl⟩⟩
  ·exact .inl h2
 ·intro c x x' hcl h2 h3 h4
  rw [hget (Nat.ne_of_lt hcl)] at h3
  rcases R1 c x' h3 with hd' | ⟨_,hcx'⟩ | ⟨rfl,rfl,_⟩
  ·cases x' <;> simp [Blk.isDead] at hd';rfl
  ·rw [h2] at hcx';cases hcx';exact h4
  ·rfl
theorem seal_rel {ρ : Ren} {h : H} {w : World} (r : Rel ρ h w) {b : Nat} {i : Info} (hb : ρ b = some i) {cs : List Value} {es : Nat} {anc : List Nat} (hx : h[b]? = some (.cells cs es true anc)) :
  Rel ρ (h.setIfInBounds b (.cells cs es false anc)) w ∧ Ext ρ h w ρ (h.setIfInBounds b (.cells cs es false anc)) w := by
 have hbs := r.dom b i hb
 have old : ∀ {c : Nat} {x : Blk},(h.setIfInBounds b (.cells cs es false anc))[c]? = some x → ∃ x0 : Blk,h[c]? = some x0 ∧ x0.isDead = x.isDead ∧ x0.ancs = x.ancs ∧ x0.len = x.len ∧ (x0.isLive = false → x.isLive = false) ∧ (c ≠ b → x = x0) ∧ (c = b → x = .cells cs es false anc ∧ x0 = .cells cs es true anc) := by
  intro c x hc
  by_cases hcb : c = b
  ·subst hcb
   rw [Array.getElem?_setIfInBounds_self_of_lt hbs] at hc
   cases hc
   exact ⟨_,hx,rfl,rfl,rfl,fun _ => rfl,fun hn => absurd rfl hn,fun _ => ⟨rfl,rfl⟩⟩
  ·rw [Array.getElem?_setIfInBounds_ne (Ne.symm hcb)] at hc
   exact ⟨x,hc,rfl,rfl,rfl,id,fun _ => rfl,fun hn => absurd hn hcb⟩
 refine upg2 r ⟨⟨fun c k hk => by simp;exact r.dom c k hk,r.bnd,?_,?_,?_,r.glb⟩,⟨.refl _,by simp,Nat.le_refl _,?_,fun _ _ _ => rfl,fun _ _ h => .inl h,?_,⟨rfl,rfl⟩⟩⟩
 ·intro c k x hk hc
  obtain ⟨x0,h1,_,_,_,_,h2,h3⟩ := old hc
  by_cases hcb : c = b
  ·obtain ⟨rfl,rfl⟩ := h3 hcb
   have q : BR ρ k w (.cells cs es true anc) := r.blk c k _ hk h1
   exact ⟨q.1,fun j hj => ⟨(q.2.1 j hj).1,nofun⟩,q.2.2⟩
  ·rw [h2 hcb];exact r.blk c k _ hk h1
 ·intro c d k l x y hk hl hkl hne hc hd hxd hyd
  obtain ⟨x0,a1,a2,a3,a4,a5,_⟩ := old hc
  obtain ⟨y0,b1,b2,b3,b4,b5,_⟩ := old hd
  rcases r.sep c d k l x0 y0 hk hl hkl hne a1 b1 (a2.trans hxd) (b2.trans hyd) with ⟨g1,g2,g3⟩ | ⟨g1,g2,g3⟩
  ·exact .inl ⟨b3 ▸ g1,a5 g2,a4 ▸ b4 ▸ g3⟩
  ·exact .inr ⟨a3 ▸ g1,b5 g2,a4 ▸ b4 ▸ g3⟩
 ·intro c k x a hk hc ha
  obtain ⟨x0,a1,_,a3,_⟩ := old hc
  exact r.anc c k x0 a hk a1 (a3 ▸ ha)
 ·intro c hcl hn
  have hcb : c ≠ b := fun e => by subst e;rw [hb] at hn;cases hn
  rw [Array.getElem?_setIfInBounds_ne (Ne.symm hcb)]
 ·intro c x x' hcl h1 h2 h3
  obtain ⟨x0,a1,_,_,_,a5,_⟩ := old h2
  rw [h1] at a1;cases a1;exact a5 h3
theorem kill_rel {ρ : Ren} {h : H} {w : World} (r : Rel ρ h w) (l : List Nat) (hl : ∀ a ∈ l,ρ a ≠ none) : Rel ρ (kill h l) w ∧ Ext ρ h w ρ (kill h l) w := by
 have back : ∀ {c : Nat} {x : Blk},(kill h l)[c]? = some x → x = .dead ∨ h[c]? = some x := by
  intro c x hc
  rw [kill_get] at hc
  split at hc
  ·cases hc;exact .inl rfl
  ·exact .inr hc
 refine upg2 r ⟨⟨fun c k hk => by rw [kill_size];exact r.dom c k hk,r.bnd,?_,?_,?_,r.glb⟩,⟨.refl _,by rw [kill_size];exact Nat.le_refl _,Nat.le_refl _,?_,fun _ _ _ => rfl,fun _ _ h => .inl h,?_,⟨rfl,rfl⟩⟩⟩
 ·intro c k x hk hc
  rcases back hc with rfl | h1
  ·trivial
  ·exact r.blk c k x hk h1
 ·intro c d k q x y hk hq hkl hne hc hd hxd hyd
  rcases back hc with rfl | h1
  ·cases hxd
  ·rcases back hd with rfl | h2
   ·cases hyd
   ·exact r.sep c d k q x y hk hq hkl hne h1 h2 hxd hyd
 ·intro c k x a hk hc ha
  rcases back hc with rfl | h1
  ·cases ha
  ·exact r.anc c k x a hk h1 ha
 ·intro c _ hn
  rw [kill_get,if_neg]
  rintro ⟨hm,_⟩
  exact hl c hm hn
 ·intro c x x' _ h1 h2 h3
  rcases back h2 with rfl | h4
  ·rfl
  ·rw [h1] at h4;cases h4;exact h3
end Go.Ev
