/- Texts of the proofs over heraldlaw18, put together by a program (merge18c.py): Ev23. -/
import Derived.Test.YtnoghchcboiojaaGreatDoorC15
import Derived.SizedLaws
set_option linter.unusedVariables false
set_option linter.unusedSimpArgs false
namespace Go.Ev
mutual
def Ty.need : Ty → Nat
 | .int _ => 8
 | .bool => 1
 | .str => 16
 | .slice _ => 24
 | .struct fs => Ty.needs fs
def Ty.needs : List Ty → Nat
 | [] => 0
 | f :: fs => f.need + Ty.needs fs
end
mutual
def tyB (P : Program) : Ty → TypeId → Bool
 | .int _,_ => true
 | .bool,_ => true
 | .str,_ => true
 | .slice e,t => match P.underlying t with
  | some (.slice el) => decide (e.need ≤ P.bytesOf el) && tyB P e el
  | _ => false
 | .struct fs,t => match P.underlying t with
  | some (.struct fields) => fieldsB P fs fields.toList
  | _ => false
def fieldsB (P : Program) : List Ty → List Field → Bool
 | y :: ys,f :: fs => tyB P y f.type && fieldsB P ys fs
 | _,_ => true
end
theorem weights_mem_all {HT : Type} {P : Program} {t : TypeId} : ∀ {ds : List (DataW HT)} {j : Nat} {d : DataW HT},ds[j]? = some d → ∀ n ∈ d.weights P t,n ∈ DataW.weightsAll P t ds
 | d0 :: ds,0,d,hd,n,hn => by
  simp only [List.getElem?_cons_zero,Option.some.injEq] at hd
  subst hd
  simp only [DataW.weightsAll,List.mem_append]
  exact Or.inl hn
 | d0 :: ds,j + 1,d,hd,n,hn => by
  simp only [List.getElem?_cons_succ] at hd
  simp only [DataW.weightsAll,List.mem_append]
  exact Or.inr (weights_mem_all hd n hn)
 | [],_,_,hd,_,_ => by simp at hd
mutual
def CellsZ (h : H) : Ty → List Value → Prop
 | .int k,cs => ∃ n,cs = [.int k n] ∧ (Lit.int k n).wf = true
 | .bool,cs => ∃ b,cs = [.bool b]
 | .str,cs => ∃ s : ByteArray,cs = [.string s] ∧ s.size ≤ maxLen
 | .slice e,cs => cs = [.slice none 0 0] ∨ cs = [.slice (some ⟨0,0,some 0⟩) 0 0] ∨
   ∃ b o n c bs,cs = [.slice (some ⟨b,o,none⟩) n c] ∧ n ≤ c ∧ c ≤ maxLen ∧ n * e.need ≤ reachBytes ∧ b < h.size ∧ hget h b = some (.cells bs 0 false []) ∧ ∀ i,i < n → o + i * e.size + e.size ≤ bs.length ∧ CellsZ h e ((bs.drop (o + i * e.size)).take e.size)
 | .struct fs,cs => StructZ h fs cs
def StructZ (h : H) : List Ty → List Value → Prop
 | [],cs => cs = []
 | f :: fs,cs => f.size ≤ cs.length ∧ CellsZ h f (cs.take f.size) ∧ StructZ h fs (cs.drop f.size)
end
section
variable {HT : Type} {enc : TypeId × Value → HT} {P : Program} {W : World} {base : Nat} {held : Bool}
mutual
theorem open_cellsZ : ∀ (y : Ty) (t : TypeId),tyOk P y t = true → tyB P y t = true → ∀ {fuel : Nat} {cs : List Value} {x : DataW HT × List MemPlace},DataW.trod enc P W base (fun _ => true) held fuel t cs = some x → (∀ n ∈ DataW.weights P t x.1,n ≤ reachBytes) →
  CellsZ (absH W) y (cs.map (absV W.heap.size)) ∧ cs.length = y.size
 | .int k,t,hy,hb,fuel,cs,x,h,hwt => by
  unfold tyOk at hy
  split at hy
  ·rename_i k' ht
   have hk : k = k' := by simpa using hy
   subst hk
   obtain ⟨n,rfl,_,hw⟩ := DataW.trod_int ht h
   exact ⟨by simp only [CellsZ];exact ⟨n,rfl,hw⟩,rfl⟩
  ·cases hy
 | .bool,t,hy,hb,fuel,cs,x,h,hwt => by
  unfold tyOk at hy
  split at hy
  ·rename_i ht
   obtain ⟨b,rfl,_⟩ := DataW.trod_bool ht h
   exact ⟨by simp only [CellsZ];exact ⟨b,rfl⟩,rfl⟩
  ·cases hy
 | .str,t,hy,hb,fuel,cs,x,h,hwt => by
  unfold tyOk at hy
  split at hy
  ·rename_i ht
   obtain ⟨s,rfl,_,hw⟩ := DataW.trod_string ht h
   exact ⟨by simp only [CellsZ];exact ⟨s,rfl,hw⟩,rfl⟩
  ·cases hy
 | .slice e,t,hy,hb,fuel,cs,x,h,hwt => by
  unfold tyOk at hy
  split at hy
  ·rename_i el ht
   simp only [Bool.and_eq_true,beq_iff_eq,decide_eq_true_eq] at hy
   obtain ⟨⟨hsz,hpos⟩,hel⟩ := hy
   unfold tyB at hb
   rw [ht] at hb
   simp only [Bool.and_eq_true,decide_eq_true_eq] at hb
   obtain ⟨hbn,hbe⟩ := hb
   rcases DataW.trod_slice ht h with ⟨rfl,_⟩ | ⟨a,len,cap,elems,rest,n,_,rfl,rfl,_,hlc,hcm,hlen,hE,hR,_⟩
   ·exact ⟨by simp only [CellsZ];exact .inl rfl,rfl⟩
   ·refine ⟨?_,rfl⟩
    simp only [CellsZ]
    by_cases hc0 : cap = 0
    ·subst hc0
     have : len = 0 := by omega
     subst this
     exact .inr (.inl rfl)
    ·rw [hsz] at hE hR
     obtain ⟨hrl,hR⟩ := hR rfl
     have hrow : ∀ i,i < cap → ∃ row,W.cells? base (a.add (i * e.size)) e.size = some row := by
      intro i hi
      by_cases hil : i < len
      ·have := hE i hil
       obtain ⟨q,hq⟩ : ∃ q,elems[i]? = some q := ⟨_,List.getElem?_eq_getElem (by omega)⟩
       rw [hq] at this
       obtain ⟨row,h1,_⟩ := Option.bind_eq_some_iff.1 this
       exact ⟨row,h1⟩
      ·have := hR (i - len) (by omega)
       obtain ⟨q,hq⟩ : ∃ q,rest[i - len]? = some q := ⟨_,List.getElem?_eq_getElem (by omega)⟩
       rw [hq,show len + (i - len) = i by omega] at this
       obtain ⟨row,h1,_⟩ := Option.bind_eq_some_iff.1 this
       exact ⟨row,h1⟩
     obtain ⟨row0,h0⟩ := hrow 0 (by omega)
     rw [Nat.zero_mul,show a.add 0 = a from by simp [Addr.add]] at h0
     obtain ⟨arr,T,fr,hh,hsp,_,_⟩ := cells_row h0 hpos
     obtain ⟨b,o,sp⟩ := a
     simp only at hsp hh
     subst hsp
     have hbl : b < W.heap.size := (Array.getElem?_eq_some_iff.1 hh).1
     have hneed : len * e.need ≤ reachBytes := by
      have h1 := hwt ((elems.length + rest.length) * P.bytesOf el) (by simp [DataW.weights,ht])
      have h2 : len * e.need ≤ (elems.length + rest.length) * P.bytesOf el := Nat.mul_le_mul (by omega) hbn
      omega
     refine .inr (.inr ⟨b,o,len,cap,arr.toList.map (absV W.heap.size),?_,hlc,hcm,hneed,by rw [absH_size];exact hbl,?_,?_⟩)
     ·simp only [List.map_cons,List.map_nil,absV]
      by_cases hl0 : len = 0
      ·subst hl0
       cases cap with
       | zero => exact absurd rfl hc0
       | succ cap => simp [absV,hbl]
      ·cases len with
       | zero => exact absurd rfl hl0
       | succ len => simp [absV,hbl,hlc]
     ·show (W.heap.map (absB W.heap.size))[b]? = _
      rw [Array.getElem?_map,hh];rfl
     ·intro i hi
      obtain ⟨row,hr⟩ := hrow i (by omega)
      obtain ⟨arr',T',fr',hh',_,hsz',hrow'⟩ := cells_row hr hpos
      have hoff : ((⟨b,o,none⟩ : Addr).add (i * e.size)).off = o + i * e.size := by
       by_cases hz : i * e.size = 0
       ·simp [Addr.add,hz]
       ·simp [Addr.add,hz]
      have hblk : ((⟨b,o,none⟩ : Addr).add (i * e.size)).block = b := by
       by_cases hz : i * e.size = 0
       ·simp [Addr.add,hz]
       ·simp [Addr.add,hz]
      rw [hblk,hh] at hh'
      simp only [Option.some.injEq,Obj.cells.injEq] at hh'
      obtain ⟨rfl,_,_⟩ := hh'
      rw [hoff] at hsz' hrow'
      have hEi := hE i hi
      obtain ⟨q,hq⟩ : ∃ q,elems[i]? = some q := ⟨_,List.getElem?_eq_getElem (by omega)⟩
      rw [hq,hr] at hEi
      simp only [Option.bind_some] at hEi
      have hrec := (open_cellsZ e el hel hbe hEi (fun m hm => hwt m (by
       simp only [DataW.weights,ht,List.mem_cons,List.mem_append]
       refine .inr (.inl (weights_mem_all (j := i) (d := q.1) (by rw [List.getElem?_map,hq];rfl) m hm))))).1
      refine ⟨by simpa using hsz',?_⟩
      rw [hrow'] at hrec
      simpa [List.map_take,List.map_drop] using hrec
  ·cases hy
 | .struct fs,t,hy,hb,fuel,cs,x,h,hwt => by
  unfold tyOk at hy
  split at hy
  ·rename_i fields ht
   simp only [Bool.and_eq_true,beq_iff_eq] at hy
   obtain ⟨hsz,hf⟩ := hy
   unfold tyB at hb
   rw [ht] at hb
   simp only at hb
   obtain ⟨xs,n,_,rfl,hl,hlen,hi⟩ := DataW.trod_struct ht h
   rw [hsz] at hl
   refine ⟨?_,by simpa [Ty.size] using hl⟩
   simp only [CellsZ]
   have := open_fieldsZ fs fields.toList 0 hf hb (fuel := n) (cs := cs) (by omega) (fun i f hif => by
    have hif' : fields[i]? = some f := by simpa using hif
    have := hi i f hif'
    obtain ⟨q,hq⟩ : ∃ q,xs[i]? = some q := ⟨_,List.getElem?_eq_getElem (by
     have := (Array.getElem?_eq_some_iff.1 hif').1
     omega)⟩
    rw [hq] at this
    refine ⟨q,this,fun m hm => hwt m ?_⟩
    simp only [DataW.weights,ht]
    exact DataW.weights_mem_each (j := i) (t := f.type) (d := q.1) (by rw [List.getElem?_map,hif];rfl) (by rw [List.getElem?_map,hq];rfl) m hm)
   simpa using this
  ·cases hy
theorem open_fieldsZ : ∀ (ys : List Ty) (fs : List Field) (o : Nat),fieldsOk P ys fs o = true → fieldsB P ys fs = true → ∀ {fuel : Nat} {cs : List Value},cs.length = o + Ty.sizes ys →
  (∀ (i : Nat) (f : Field),fs[i]? = some f → ∃ x,DataW.trod enc P W base (fun _ => true) held fuel f.type ((cs.drop f.offset).take (P.cellsOf f.type)) = some x ∧ ∀ n ∈ DataW.weights P f.type x.1,n ≤ reachBytes) →
  StructZ (absH W) ys ((cs.drop o).map (absV W.heap.size))
 | [],[],o,_,_,fuel,cs,hl,_ => by
  simp only [StructZ,Ty.sizes] at hl ⊢
  simp;omega
 | [],_ :: _,_,h,_,_,_,_,_ => by simp [fieldsOk] at h
 | _ :: _,[],_,h,_,_,_,_,_ => by simp [fieldsOk] at h
 | y :: ys,f :: fs,o,h,hb,fuel,cs,hl,hx => by
  simp only [fieldsB,Bool.and_eq_true] at hb
  simp only [fieldsOk,Bool.and_eq_true,beq_iff_eq] at h
  obtain ⟨⟨⟨h1,h2⟩,h3⟩,h4⟩ := h
  simp only [Ty.sizes] at hl
  obtain ⟨x,hx0,hwx⟩ := hx 0 f rfl
  rw [h1,h2] at hx0
  have g1 := (open_cellsZ y f.type h3 hb.1 hx0 hwx).1
  have g2 := open_fieldsZ ys fs (o + y.size) h4 hb.2 (fuel := fuel) (cs := cs) (by omega) (fun i g hg => hx (i + 1) g (by simpa using hg))
  simp only [StructZ]
  refine ⟨by simp;omega,?_,?_⟩
  ·simpa [List.map_take,List.map_drop] using g1
  ·simpa [List.map_drop,List.drop_drop,Nat.add_comm] using g2
end
mutual
theorem cellsZ_plain {h : H} : ∀ (y : Ty) {cs : List Value},CellsZ h y cs → cs.length = y.size ∧ ∀ x ∈ cs,oneCell x = true ∧ sameCell x x = true
 | .int k,cs,hc => by
  simp only [CellsZ] at hc
  obtain ⟨n,rfl,_⟩ := hc
  simp [Ty.size,oneCell,sameCell]
 | .bool,cs,hc => by
  simp only [CellsZ] at hc
  obtain ⟨n,rfl⟩ := hc
  simp [Ty.size,oneCell,sameCell]
 | .str,cs,hc => by
  simp only [CellsZ] at hc
  obtain ⟨n,rfl,_⟩ := hc
  refine ⟨rfl,fun x hx => ?_⟩
  rw [List.mem_singleton] at hx
  subst hx
  exact ⟨rfl,(MapKept.bytes_beq n n).2 rfl⟩
 | .slice e,cs,hc => by
  simp only [CellsZ] at hc
  rcases hc with rfl | rfl | ⟨b,o,n,c,bs,rfl,_⟩ <;> simp [Ty.size,oneCell,sameCell]
 | .struct fs,cs,hc => by
  simp only [CellsZ] at hc
  have := structZ_plain fs hc
  simpa [Ty.size] using this
theorem structZ_plain {h : H} : ∀ (ys : List Ty) {cs : List Value},StructZ h ys cs → cs.length = Ty.sizes ys ∧ ∀ x ∈ cs,oneCell x = true ∧ sameCell x x = true
 | [],cs,hc => by
  simp only [StructZ] at hc
  subst hc
  simp [Ty.sizes]
 | y :: ys,cs,hc => by
  simp only [StructZ] at hc
  obtain ⟨h1,h2,h3⟩ := hc
  obtain ⟨a1,a2⟩ := cellsZ_plain y h2
  obtain ⟨b1,b2⟩ := structZ_plain ys h3
  refine ⟨by simp [Ty.sizes] at b1 ⊢;omega,fun x hx => ?_⟩
  rw [← List.take_append_drop y.size cs] at hx
  rcases List.mem_append.1 hx with hx | hx
  ·exact a2 x hx
  ·exact b2 x hx
end
theorem open_argZ {y : Ty} {t : TypeId} (hy : tyOk P y t = true) (hb : tyB P y t = true) {v : Value} {d : DataW HT} {p : List MemPlace} (h : DataW.Trod enc P W base (fun _ => true) held t v d p) (hw : ∀ n ∈ DataW.weights P t d,n ≤ reachBytes) : CellsZ (absH W) y (v.cells.toList.map (absV W.heap.size)) := by
 obtain ⟨fuel,h⟩ := h
 exact (open_cellsZ y t hy hb h hw).1
end
end Go.Ev
