/- Texts of the proofs over heraldlaw20, put together by a program (merge20.py): Oa1. -/
import Derived.Test.YtalamcchkkdelaaGreatDoorC11
import Derived.Test.YtalamcchkkdelaaGreatDoorRows
set_option linter.unusedVariables false
set_option linter.unusedSimpArgs false
namespace Go.Proofs.YtalamcchkkdelaaGreatDoor.bulks
open Go.Ev
theorem one_le {HT : Type} (d : DataW HT) : 1 ≤ Rows.uptoBulk d := by
 cases d with
 | lit l => cases l <;> simp [Rows.uptoBulk]
 | _ => simp [Rows.uptoBulk]
theorem part_le {HT : Type} {d : DataW HT} {l : List (DataW HT)} (h : d ∈ l) : Rows.uptoBulk d ≤ Rows.uptoBulkAll l := by
 induction l with
 | nil => cases h
 | cons x r ih =>
  simp only [Rows.uptoBulkAll]
  rcases List.mem_cons.1 h with rfl | e
  ·omega
  ·have := ih e;omega
theorem length_le {HT : Type} (l : List (DataW HT)) : l.length ≤ Rows.uptoBulkAll l := by
 induction l with
 | nil => simp [Rows.uptoBulkAll]
 | cons x r ih => have := one_le x;simp only [Rows.uptoBulkAll,List.length_cons];omega
theorem slice_le {HT : Type} (elems spare : List (DataW HT)) : elems.length + spare.length + 1 ≤ Rows.uptoBulk (.slice elems spare) := by
 have h1 := length_le elems
 have h2 := length_le spare
 simp only [Rows.uptoBulk]
 omega
theorem slice_elems {HT : Type} (elems spare : List (DataW HT)) : Rows.uptoBulkAll elems + 1 ≤ Rows.uptoBulk (.slice elems spare) := by
 simp only [Rows.uptoBulk]
 omega
theorem bound {HT : Type} {l : List (DataW HT)} (hk : Rows.uptoSmall HT l = true) : Rows.uptoBulkAll l ≤ 1048576 := of_decide_eq_true hk
end Go.Proofs.YtalamcchkkdelaaGreatDoor.bulks
namespace Go.Proofs.YtalamcchkkdelaaGreatDoor
open Go.Ev
mutual
def CellsB (h : H) : Ty → List Value → Prop
 | .int k,cs => ∃ n,cs = [.int k n] ∧ (Lit.int k n).wf = true
 | .bool,cs => ∃ b,cs = [.bool b]
 | .str,cs => ∃ s : ByteArray,cs = [.string s] ∧ s.size ≤ 1048576
 | .slice e,cs => cs = [.slice none 0 0] ∨ cs = [.slice (some ⟨0,0,some 0⟩) 0 0] ∨
   ∃ b o n c bs,cs = [.slice (some ⟨b,o,none⟩) n c] ∧ n ≤ c ∧ c ≤ maxLen ∧ n ≤ 1048576 ∧ b < h.size ∧ hget h b = some (.cells bs 0 false []) ∧ ∀ i,i < n → o + i * e.size + e.size ≤ bs.length ∧ CellsB h e ((bs.drop (o + i * e.size)).take e.size)
 | .struct fs,cs => StructB h fs cs
def StructB (h : H) : List Ty → List Value → Prop
 | [],cs => cs = []
 | f :: fs,cs => f.size ≤ cs.length ∧ CellsB h f (cs.take f.size) ∧ StructB h fs (cs.drop f.size)
end
section
variable {HT : Type} {enc : TypeId × Value → HT} {P : Program} {W : World} {base : Nat} {held : Bool}
mutual
theorem open_cellsB : ∀ (y : Ty) (t : TypeId),tyOk P y t = true → ∀ {fuel : Nat} {cs : List Value} {x : DataW HT × List MemPlace},DataW.trod enc P W base (fun _ => true) held fuel t cs = some x → Rows.uptoBulk x.1 ≤ 1048576 →
  CellsB (absH W) y (cs.map (absV W.heap.size)) ∧ cs.length = y.size
 | .int k,t,hy,fuel,cs,x,h,hwt => by
  unfold tyOk at hy
  split at hy
  ·rename_i k' ht
   have hk : k = k' := by simpa using hy
   subst hk
   obtain ⟨n,rfl,_,hw⟩ := DataW.trod_int ht h
   exact ⟨by simp only [CellsB];exact ⟨n,rfl,hw⟩,rfl⟩
  ·cases hy
 | .bool,t,hy,fuel,cs,x,h,hwt => by
  unfold tyOk at hy
  split at hy
  ·rename_i ht
   obtain ⟨b,rfl,_⟩ := DataW.trod_bool ht h
   exact ⟨by simp only [CellsB];exact ⟨b,rfl⟩,rfl⟩
  ·cases hy
 | .str,t,hy,fuel,cs,x,h,hwt => by
  unfold tyOk at hy
  split at hy
  ·rename_i ht
   obtain ⟨s,rfl,e,hw⟩ := DataW.trod_string ht h
   have hz : s.data.toList.length = s.size := by rw [Array.length_toList];rfl
   rw [e] at hwt
   simp only [Rows.uptoBulk] at hwt
   exact ⟨by simp only [CellsB];exact ⟨s,rfl,by omega⟩,rfl⟩
  ·cases hy
 | .slice e,t,hy,fuel,cs,x,h,hwt => by
  unfold tyOk at hy
  split at hy
  ·rename_i el ht
   simp only [Bool.and_eq_true,beq_iff_eq,decide_eq_true_eq] at hy
   obtain ⟨⟨hsz,hpos⟩,hel⟩ := hy
   rcases DataW.trod_slice ht h with ⟨rfl,_⟩ | ⟨a,len,cap,elems,rest,n,_,rfl,rfl,_,hlc,hcm,hlen,hE,hR,_⟩
   ·exact ⟨by simp only [CellsB];exact .inl rfl,rfl⟩
   ·refine ⟨?_,rfl⟩
    simp only [CellsB]
    by_cases hc0 : cap = 0
    ·subst hc0
     have : len = 0 := by omega
     subst this
     exact .inr (.inl rfl)
    ·rw [hsz] at hE hR
     obtain ⟨hrl,hR⟩ := hR rfl
     have hrow : ∀ i,i < cap → ∃ row,W.cells? base (a.add (i * e.size)) e.size = some row := by
      intro i hi
      by_cases hil : i < len
      ·have := hE i hil
       obtain ⟨q,hq⟩ : ∃ q,elems[i]? = some q := ⟨_,List.getElem?_eq_getElem (by omega)⟩
       rw [hq] at this
       obtain ⟨row,h1,_⟩ := Option.bind_eq_some_iff.1 this
       exact ⟨row,h1⟩
      ·have := hR (i - len) (by omega)
       obtain ⟨q,hq⟩ : ∃ q,rest[i - len]? = some q := ⟨_,List.getElem?_eq_getElem (by omega)⟩
       rw [hq,show len + (i - len) = i by omega] at this
       obtain ⟨row,h1,_⟩ := Option.bind_eq_some_iff.1 this
       exact ⟨row,h1⟩
     obtain ⟨row0,h0⟩ := hrow 0 (by omega)
     rw [Nat.zero_mul,show a.add 0 = a from by simp [Addr.add]] at h0
     obtain ⟨arr,T,fr,hh,hsp,_,_⟩ := cells_row h0 hpos
     obtain ⟨b,o,sp⟩ := a
     simp only at hsp hh
     subst hsp
     have hbl : b < W.heap.size := (Array.getElem?_eq_some_iff.1 hh).1
     have hneed : len ≤ 1048576 := by
      have h1 := bulks.slice_le (elems.map (·.1)) (rest.map (·.1))
      simp only [List.length_map] at h1
      have h2 : Rows.uptoBulk (DataW.slice (elems.map (·.1)) (rest.map (·.1))) ≤ 1048576 := hwt
      omega
     refine .inr (.inr ⟨b,o,len,cap,arr.toList.map (absV W.heap.size),?_,hlc,hcm,hneed,by rw [absH_size];exact hbl,?_,?_⟩)
     ·simp only [List.map_cons,List.map_nil,absV]
      by_cases hl0 : len = 0
      ·subst hl0
       cases cap with
       | zero => exact absurd rfl hc0
       | succ cap => simp [absV,hbl]
      ·cases len with
       | zero => exact absurd rfl hl0
       | succ len => simp [absV,hbl,hlc]
     ·show (W.heap.map (absB W.heap.size))[b]? = _
      rw [Array.getElem?_map,hh];rfl
     ·intro i hi
      obtain ⟨row,hr⟩ := hrow i (by omega)
      obtain ⟨arr',T',fr',hh',_,hsz',hrow'⟩ := cells_row hr hpos
      have hoff : ((⟨b,o,none⟩ : Addr).add (i * e.size)).off = o + i * e.size := by
       by_cases hz : i * e.size = 0
       ·simp [Addr.add,hz]
       ·simp [Addr.add,hz]
      have hblk : ((⟨b,o,none⟩ : Addr).add (i * e.size)).block = b := by
       by_cases hz : i * e.size = 0
       ·simp [Addr.add,hz]
       ·simp [Addr.add,hz]
      rw [hblk,hh] at hh'
      simp only [Option.some.injEq,Obj.cells.injEq] at hh'
      obtain ⟨rfl,_,_⟩ := hh'
      rw [hoff] at hsz' hrow'
      have hEi := hE i hi
      obtain ⟨q,hq⟩ : ∃ q,elems[i]? = some q := ⟨_,List.getElem?_eq_getElem (by omega)⟩
      rw [hq,hr] at hEi
      simp only [Option.bind_some] at hEi
      have hrec := (open_cellsB e el hel hEi (by
       have h1 := bulks.slice_elems (elems.map (·.1)) (rest.map (·.1))
       have h2 : Rows.uptoBulk (DataW.slice (elems.map (·.1)) (rest.map (·.1))) ≤ 1048576 := hwt
       have h3 := bulks.part_le (l := elems.map (·.1)) (d := q.1) (List.mem_map_of_mem (List.mem_of_getElem? hq))
       omega)).1
      refine ⟨by simpa using hsz',?_⟩
      rw [hrow'] at hrec
      simpa [List.map_take,List.map_drop] using hrec
  ·cases hy
 | .struct fs,t,hy,fuel,cs,x,h,hwt => by
  unfold tyOk at hy
  split at hy
  ·rename_i fields ht
   simp only [Bool.and_eq_true,beq_iff_eq] at hy
   obtain ⟨hsz,hf⟩ := hy
   obtain ⟨xs,n,_,rfl,hl,hlen,hi⟩ := DataW.trod_struct ht h
   rw [hsz] at hl
   refine ⟨?_,by simpa [Ty.size] using hl⟩
   simp only [CellsB]
   have := open_fieldsB fs fields.toList 0 hf (fuel := n) (cs := cs) (by omega) (fun i f hif => by
    have hif' : fields[i]? = some f := by simpa using hif
    have := hi i f hif'
    obtain ⟨q,hq⟩ : ∃ q,xs[i]? = some q := ⟨_,List.getElem?_eq_getElem (by
     have := (Array.getElem?_eq_some_iff.1 hif').1
     omega)⟩
    rw [hq] at this
    refine ⟨q,this,?_⟩
    have h2 : Rows.uptoBulk (DataW.agg (xs.map (·.1))) ≤ 1048576 := hwt
    simp only [Rows.uptoBulk] at h2
    have h3 := bulks.part_le (l := xs.map (·.1)) (d := q.1) (List.mem_map_of_mem (List.mem_of_getElem? hq))
    omega)
   simpa using this
  ·cases hy
theorem open_fieldsB : ∀ (ys : List Ty) (fs : List Field) (o : Nat),fieldsOk P ys fs o = true → ∀ {fuel : Nat} {cs : List Value},cs.length = o + Ty.sizes ys →
  (∀ (i : Nat) (f : Field),fs[i]? = some f → ∃ x,DataW.trod enc P W base (fun _ => true) held fuel f.type ((cs.drop f.offset).take (P.cellsOf f.type)) = some x ∧ Rows.uptoBulk x.1 ≤ 1048576) →
  StructB (absH W) ys ((cs.drop o).map (absV W.heap.size))
 | [],[],o,_,fuel,cs,hl,_ => by
  simp only [StructB,Ty.sizes] at hl ⊢
  simp;omega
 | [],_ :: _,_,h,_,_,_,_ => by simp [fieldsOk] at h
 | _ :: _,[],_,h,_,_,_,_ => by simp [fieldsOk] at h
 | y :: ys,f :: fs,o,h,fuel,cs,hl,hx => by
  simp only [fieldsOk,Bool.and_eq_true,beq_iff_eq] at h
  obtain ⟨⟨⟨h1,h2⟩,h3⟩,h4⟩ := h
  simp only [Ty.sizes] at hl
  obtain ⟨x,hx0,hwx⟩ := hx 0 f rfl
  rw [h1,h2] at hx0
  have g1 := (open_cellsB y f.type h3 hx0 hwx).1
  have g2 := open_fieldsB ys fs (o + y.size) h4 (fuel := fuel) (cs := cs) (by omega) (fun i g hg => hx (i + 1) g (by simpa using hg))
  simp only [StructB]
  refine ⟨by simp;omega,?_,?_⟩
  ·simpa [List.map_take,List.map_drop] using g1
  ·simpa [List.map_drop,List.drop_drop,Nat.add_comm] using g2
end
mutual
theorem cellsB_plain {h : H} : ∀ (y : Ty) {cs : List Value},CellsB h y cs → cs.length = y.size ∧ ∀ x ∈ cs,oneCell x = true ∧ sameCell x x = true
 | .int k,cs,hc => by
  simp only [CellsB] at hc
  obtain ⟨n,rfl,_⟩ := hc
  simp [Ty.size,oneCell,sameCell]
 | .bool,cs,hc => by
  simp only [CellsB] at hc
  obtain ⟨n,rfl⟩ := hc
  simp [Ty.size,oneCell,sameCell]
 | .str,cs,hc => by
  simp only [CellsB] at hc
  obtain ⟨n,rfl,_⟩ := hc
  refine ⟨rfl,fun x hx => ?_⟩
  rw [List.mem_singleton] at hx
  subst hx
  exact ⟨rfl,(MapKept.bytes_beq n n).2 rfl⟩
 | .slice e,cs,hc => by
  simp only [CellsB] at hc
  rcases hc with rfl | rfl | ⟨b,o,n,c,bs,rfl,_⟩ <;> simp [Ty.size,oneCell,sameCell]
 | .struct fs,cs,hc => by
  simp only [CellsB] at hc
  have := structB_plain fs hc
  simpa [Ty.size] using this
theorem structB_plain {h : H} : ∀ (ys : List Ty) {cs : List Value},StructB h ys cs → cs.length = Ty.sizes ys ∧ ∀ x ∈ cs,oneCell x = true ∧ sameCell x x = true
 | [],cs,hc => by
  simp only [StructB] at hc
  subst hc
  simp [Ty.sizes]
 | y :: ys,cs,hc => by
  simp only [StructB] at hc
  obtain ⟨h1,h2,h3⟩ := hc
  obtain ⟨a1,a2⟩ := cellsB_plain y h2
  obtain ⟨b1,b2⟩ := structB_plain ys h3
  refine ⟨by simp [Ty.sizes] at b1 ⊢;omega,fun x hx => ?_⟩
  rw [← List.take_append_drop y.size cs] at hx
  rcases List.mem_append.1 hx with hx | hx
  ·exact a2 x hx
  ·exact b2 x hx
end
theorem open_argB {y : Ty} {t : TypeId} (hy : tyOk P y t = true) {v : Value} {d : DataW HT} {p : List MemPlace} (h : DataW.Trod enc P W base (fun _ => true) held t v d p) (hw : Rows.uptoBulk d ≤ 1048576) : CellsB (absH W) y (v.cells.toList.map (absV W.heap.size)) := by
 obtain ⟨fuel,h⟩ := h
 exact (open_cellsB y t hy h hw).1
end
end Go.Proofs.YtalamcchkkdelaaGreatDoor
