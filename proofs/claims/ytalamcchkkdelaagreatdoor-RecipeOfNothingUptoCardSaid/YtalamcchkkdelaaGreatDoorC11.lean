/- Texts of the proofs over heraldlaw20, put together by a program (merge20.py): Ev20 Ev21 Nt0 Ks0. -/
import Derived.Test.YtalamcchkkdelaaGreatDoorC8
import Derived.ChangeArms
set_option linter.unusedVariables false
set_option linter.unusedSimpArgs false
namespace Go.Ev
inductive Ty where
 | int (k : IntKind)
 | bool
 | str
 | slice (e : Ty)
 | struct (fs : List Ty)
mutual
def Ty.size : Ty → Nat
 | .int _ => 1
 | .bool => 1
 | .str => 1
 | .slice _ => 1
 | .struct fs => Ty.sizes fs
def Ty.sizes : List Ty → Nat
 | [] => 0
 | f :: fs => f.size + Ty.sizes fs
end
mutual
def tyOk (P : Program) : Ty → TypeId → Bool
 | .int k,t => match P.underlying t with
  | some (.int k') => k == k'
  | _ => false
 | .bool,t => match P.underlying t with
  | some .bool => true
  | _ => false
 | .str,t => match P.underlying t with
  | some .string => true
  | _ => false
 | .slice e,t => match P.underlying t with
  | some (.slice el) => P.cellsOf el == e.size && decide (0 < e.size) && tyOk P e el
  | _ => false
 | .struct fs,t => match P.underlying t with
  | some (.struct fields) => P.cellsOf t == Ty.sizes fs && fieldsOk P fs fields.toList 0
  | _ => false
def fieldsOk (P : Program) : List Ty → List Field → Nat → Bool
 | [],[],_ => true
 | y :: ys,f :: fs,o => f.offset == o && P.cellsOf f.type == y.size && tyOk P y f.type && fieldsOk P ys fs (o + y.size)
 | _,_,_ => false
end
mutual
def CellsT (h : H) : Ty → List Value → Prop
 | .int k,cs => ∃ n,cs = [.int k n] ∧ (Lit.int k n).wf = true
 | .bool,cs => ∃ b,cs = [.bool b]
 | .str,cs => ∃ s : ByteArray,cs = [.string s] ∧ s.size ≤ maxLen
 | .slice e,cs => cs = [.slice none 0 0] ∨ cs = [.slice (some ⟨0,0,some 0⟩) 0 0] ∨
   ∃ b o n c bs,cs = [.slice (some ⟨b,o,none⟩) n c] ∧ n ≤ c ∧ c ≤ maxLen ∧ b < h.size ∧ hget h b = some (.cells bs 0 false []) ∧ ∀ i,i < n → o + i * e.size + e.size ≤ bs.length ∧ CellsT h e ((bs.drop (o + i * e.size)).take e.size)
 | .struct fs,cs => StructT h fs cs
def StructT (h : H) : List Ty → List Value → Prop
 | [],cs => cs = []
 | f :: fs,cs => f.size ≤ cs.length ∧ CellsT h f (cs.take f.size) ∧ StructT h fs (cs.drop f.size)
end
theorem cells_row {w : World} {base : Nat} {a : Addr} {n : Nat} {cs : List Value} (h : w.cells? base a n = some cs) (hn : 0 < n) :
  ∃ (arr : Array Value) (T : TypeId) (fr : Nat × Nat),w.heap[a.block]? = some (.cells arr T fr) ∧ a.spot = none ∧ a.off + n ≤ arr.size ∧ cs = (arr.toList.drop a.off).take n := by
 obtain ⟨_,hl,hi⟩ := World.cells?_some h
 have h0 := hi 0 hn
 have ha : a.add 0 = a := by simp [Addr.add]
 rw [ha] at h0
 have hs0 : ∃ v,cs[0]? = some v := ⟨cs[0]'(by omega),List.getElem?_eq_getElem (by omega)⟩
 obtain ⟨v0,hv0⟩ := hs0
 rw [hv0] at h0
 unfold World.cell? at h0
 split at h0
 ·rename_i c T fr hc
  have hsp : a.spot = none := by
   cases hsp : a.spot with
   | none => rfl
   | some q => rw [hsp] at h0;simp at h0
  have hcell : ∀ i,i < n → c[a.off + i]? = cs[i]? := by
   intro i hi'
   rw [← hi i hi']
   unfold World.cell?
   by_cases hz : i = 0
   ·subst hz;rw [ha,hc];simp [hsp]
   ·simp [Addr.add,hz,hc]
  have hsz : a.off + n ≤ c.size := by
   have hlast : cs[n - 1]? = some (cs[n - 1]'(by omega)) := List.getElem?_eq_getElem (by omega)
   have := hcell (n - 1) (by omega)
   rw [hlast] at this
   have := (Array.getElem?_eq_some_iff.1 this).1
   omega
  refine ⟨c,T,fr,hc,hsp,hsz,?_⟩
  apply List.ext_getElem?
  intro i
  by_cases hi' : i < n
  ·rw [← hcell i hi',List.getElem?_take,if_pos hi',List.getElem?_drop,Array.getElem?_toList]
  ·rw [List.getElem?_eq_none (by omega),List.getElem?_take,if_neg hi']
 ·cases h0
section
variable {HT : Type} {enc : TypeId × Value → HT} {P : Program} {W : World} {base : Nat} {held : Bool}
mutual
theorem open_cells : ∀ (y : Ty) (t : TypeId),tyOk P y t = true → ∀ {fuel : Nat} {cs : List Value} {x : DataW HT × List MemPlace},DataW.trod enc P W base (fun _ => true) held fuel t cs = some x →
  CellsT (absH W) y (cs.map (absV W.heap.size)) ∧ cs.length = y.size
 | .int k,t,hy,fuel,cs,x,h => by
  unfold tyOk at hy
  split at hy
  ·rename_i k' ht
   have hk : k = k' := by simpa using hy
   subst hk
   obtain ⟨n,rfl,_,hw⟩ := DataW.trod_int ht h
   exact ⟨by simp only [CellsT];exact ⟨n,rfl,hw⟩,rfl⟩
  ·cases hy
 | .bool,t,hy,fuel,cs,x,h => by
  unfold tyOk at hy
  split at hy
  ·rename_i ht
   obtain ⟨b,rfl,_⟩ := DataW.trod_bool ht h
   exact ⟨by simp only [CellsT];exact ⟨b,rfl⟩,rfl⟩
  ·cases hy
 | .str,t,hy,fuel,cs,x,h => by
  unfold tyOk at hy
  split at hy
  ·rename_i ht
   obtain ⟨s,rfl,_,hw⟩ := DataW.trod_string ht h
   exact ⟨by simp only [CellsT];exact ⟨s,rfl,hw⟩,rfl⟩
  ·cases hy
 | .slice e,t,hy,fuel,cs,x,h => by
  unfold tyOk at hy
  split at hy
  ·rename_i el ht
   simp only [Bool.and_eq_true,beq_iff_eq,decide_eq_true_eq] at hy
   obtain ⟨⟨hsz,hpos⟩,hel⟩ := hy
   rcases DataW.trod_slice ht h with ⟨rfl,_⟩ | ⟨a,len,cap,elems,rest,n,_,rfl,_,_,hlc,hcm,hlen,hE,hR,_⟩
   ·exact ⟨by simp only [CellsT];exact .inl rfl,rfl⟩
   ·refine ⟨?_,rfl⟩
    simp only [CellsT]
    by_cases hc0 : cap = 0
    ·subst hc0
     have : len = 0 := by omega
     subst this
     exact .inr (.inl rfl)
    ·rw [hsz] at hE hR
     obtain ⟨hrl,hR⟩ := hR rfl
     have hrow : ∀ i,i < cap → ∃ row,W.cells? base (a.add (i * e.size)) e.size = some row := by
      intro i hi
      by_cases hil : i < len
      ·have := hE i hil
       obtain ⟨q,hq⟩ : ∃ q,elems[i]? = some q := ⟨_,List.getElem?_eq_getElem (by omega)⟩
       rw [hq] at this
       obtain ⟨row,h1,_⟩ := Option.bind_eq_some_iff.1 this
       exact ⟨row,h1⟩
      ·have := hR (i - len) (by omega)
       obtain ⟨q,hq⟩ : ∃ q,rest[i - len]? = some q := ⟨_,List.getElem?_eq_getElem (by omega)⟩
       rw [hq,show len + (i - len) = i by omega] at this
       obtain ⟨row,h1,_⟩ := Option.bind_eq_some_iff.1 this
       exact ⟨row,h1⟩
     obtain ⟨row0,h0⟩ := hrow 0 (by omega)
     rw [Nat.zero_mul,show a.add 0 = a from by simp [Addr.add]] at h0
     obtain ⟨arr,T,fr,hh,hsp,_,_⟩ := cells_row h0 hpos
     obtain ⟨b,o,sp⟩ := a
     simp only at hsp hh
     subst hsp
     have hbl : b < W.heap.size := (Array.getElem?_eq_some_iff.1 hh).1
     refine .inr (.inr ⟨b,o,len,cap,arr.toList.map (absV W.heap.size),?_,hlc,hcm,by rw [absH_size];exact hbl,?_,?_⟩)
     ·simp only [List.map_cons,List.map_nil,absV]
      by_cases hl0 : len = 0
      ·subst hl0
       cases cap with
       | zero => exact absurd rfl hc0
       | succ cap => simp [absV,hbl]
      ·cases len with
       | zero => exact absurd rfl hl0
       | succ len => simp [absV,hbl,hlc]
     ·show (W.heap.map (absB W.heap.size))[b]? = _
      rw [Array.getElem?_map,hh];rfl
     ·intro i hi
      obtain ⟨row,hr⟩ := hrow i (by omega)
      obtain ⟨arr',T',fr',hh',_,hsz',hrow'⟩ := cells_row hr hpos
      have hoff : ((⟨b,o,none⟩ : Addr).add (i * e.size)).off = o + i * e.size := by
       by_cases hz : i * e.size = 0
       ·simp [Addr.add,hz]
       ·simp [Addr.add,hz]
      have hblk : ((⟨b,o,none⟩ : Addr).add (i * e.size)).block = b := by
       by_cases hz : i * e.size = 0
       ·simp [Addr.add,hz]
       ·simp [Addr.add,hz]
      rw [hblk,hh] at hh'
      simp only [Option.some.injEq,Obj.cells.injEq] at hh'
      obtain ⟨rfl,_,_⟩ := hh'
      rw [hoff] at hsz' hrow'
      have hEi := hE i hi
      obtain ⟨q,hq⟩ : ∃ q,elems[i]? = some q := ⟨_,List.getElem?_eq_getElem (by omega)⟩
      rw [hq,hr] at hEi
      simp only [Option.bind_some] at hEi
      have hrec := (open_cells e el hel hEi).1
      refine ⟨by simpa using hsz',?_⟩
      rw [hrow'] at hrec
      simpa [List.map_take,List.map_drop] using hrec
  ·cases hy
 | .struct fs,t,hy,fuel,cs,x,h => by
  unfold tyOk at hy
  split at hy
  ·rename_i fields ht
   simp only [Bool.and_eq_true,beq_iff_eq] at hy
   obtain ⟨hsz,hf⟩ := hy
   obtain ⟨xs,n,_,_,hl,hlen,hi⟩ := DataW.trod_struct ht h
   rw [hsz] at hl
   refine ⟨?_,by simpa [Ty.size] using hl⟩
   simp only [CellsT]
   have := open_fields fs fields.toList 0 hf (fuel := n) (cs := cs) (by omega) (fun i f hif => by
    have hif' : fields[i]? = some f := by simpa using hif
    have := hi i f hif'
    obtain ⟨q,hq⟩ : ∃ q,xs[i]? = some q := ⟨_,List.getElem?_eq_getElem (by
     have := (Array.getElem?_eq_some_iff.1 hif').1
     omega)⟩
    rw [hq] at this
    exact ⟨q,this⟩)
   simpa using this
  ·cases hy
theorem open_fields : ∀ (ys : List Ty) (fs : List Field) (o : Nat),fieldsOk P ys fs o = true → ∀ {fuel : Nat} {cs : List Value},cs.length = o + Ty.sizes ys →
  (∀ (i : Nat) (f : Field),fs[i]? = some f → ∃ x,DataW.trod enc P W base (fun _ => true) held fuel f.type ((cs.drop f.offset).take (P.cellsOf f.type)) = some x) →
  StructT (absH W) ys ((cs.drop o).map (absV W.heap.size))
 | [],[],o,_,fuel,cs,hl,_ => by
  simp only [StructT,Ty.sizes] at hl ⊢
  simp;omega
 | [],_ :: _,_,h,_,_,_,_ => by simp [fieldsOk] at h
 | _ :: _,[],_,h,_,_,_,_ => by simp [fieldsOk] at h
 | y :: ys,f :: fs,o,h,fuel,cs,hl,hx => by
  simp only [fieldsOk,Bool.and_eq_true,beq_iff_eq] at h
  obtain ⟨⟨⟨h1,h2⟩,h3⟩,h4⟩ := h
  simp only [Ty.sizes] at hl
  obtain ⟨x,hx0⟩ := hx 0 f rfl
  rw [h1,h2] at hx0
  have g1 := (open_cells y f.type h3 hx0).1
  have g2 := open_fields ys fs (o + y.size) h4 (fuel := fuel) (cs := cs) (by omega) (fun i g hg => hx (i + 1) g (by simpa using hg))
  simp only [StructT]
  refine ⟨by simp;omega,?_,?_⟩
  ·simpa [List.map_take,List.map_drop] using g1
  ·simpa [List.map_drop,List.drop_drop,Nat.add_comm] using g2
end
mutual
theorem cellsT_plain {h : H} : ∀ (y : Ty) {cs : List Value},CellsT h y cs → cs.length = y.size ∧ ∀ x ∈ cs,oneCell x = true ∧ sameCell x x = true
 | .int k,cs,hc => by
  simp only [CellsT] at hc
  obtain ⟨n,rfl,_⟩ := hc
  simp [Ty.size,oneCell,sameCell]
 | .bool,cs,hc => by
  simp only [CellsT] at hc
  obtain ⟨n,rfl⟩ := hc
  simp [Ty.size,oneCell,sameCell]
 | .str,cs,hc => by
  simp only [CellsT] at hc
  obtain ⟨n,rfl,_⟩ := hc
  refine ⟨rfl,fun x hx => ?_⟩
  rw [List.mem_singleton] at hx
  subst hx
  exact ⟨rfl,(MapKept.bytes_beq n n).2 rfl⟩
 | .slice e,cs,hc => by
  simp only [CellsT] at hc
  rcases hc with rfl | rfl | ⟨b,o,n,c,bs,rfl,_⟩ <;> simp [Ty.size,oneCell,sameCell]
 | .struct fs,cs,hc => by
  simp only [CellsT] at hc
  have := structT_plain fs hc
  simpa [Ty.size] using this
theorem structT_plain {h : H} : ∀ (ys : List Ty) {cs : List Value},StructT h ys cs → cs.length = Ty.sizes ys ∧ ∀ x ∈ cs,oneCell x = true ∧ sameCell x x = true
 | [],cs,hc => by
  simp only [StructT] at hc
  subst hc
  simp [Ty.sizes]
 | y :: ys,cs,hc => by
  simp only [StructT] at hc
  obtain ⟨h1,h2,h3⟩ := hc
  obtain ⟨a1,a2⟩ := cellsT_plain y h2
  obtain ⟨b1,b2⟩ := structT_plain ys h3
  refine ⟨by simp [Ty.sizes] at b1 ⊢;omega,fun x hx => ?_⟩
  rw [← List.take_append_drop y.size cs] at hx
  rcases List.mem_append.1 hx with hx | hx
  ·exact a2 x hx
  ·exact b2 x hx
end
theorem sameL_refl : ∀ (l : List Value),(∀ x ∈ l,sameCell x x = true) → sameL l l = true
 | [],_ => rfl
 | x :: l,h => by
  unfold sameL
  rw [h x (by simp),sameL_refl l fun y hy => h y (by simp [hy])]
  rfl
theorem open_arg {y : Ty} {t : TypeId} (hy : tyOk P y t = true) {v : Value} {d : DataW HT} {p : List MemPlace} (h : DataW.Trod enc P W base (fun _ => true) held t v d p) : CellsT (absH W) y (v.cells.toList.map (absV W.heap.size)) := by
 obtain ⟨fuel,h⟩ := h
 exact (open_cells y t hy h).1
end
end Go.Ev
namespace Go.Ev
theorem ba_self (b : ByteArray) : (b == b) = true := (MapKept.bytes_beq b b).2 rfl
theorem ba_nself (b : ByteArray) : (b != b) = false := by
 show (!(b == b)) = false
 rw [ba_self];rfl
def cel (h : H) (b : Nat) : Option (List Value) := match hget h b with
 | some (.cells cs _ _ _) => some cs
 | _ => none
theorem cel_of {h : H} {b : Nat} {cs : List Value} {es : Nat} {lv : Bool} {an : List Nat} (e : hget h b = some (.cells cs es lv an)) : cel h b = some cs := by
 unfold cel;rw [e]
theorem cel_inv {h : H} {b : Nat} {cs : List Value} (e : cel h b = some cs) : ∃ es lv an,hget h b = some (.cells cs es lv an) := by
 unfold cel at e
 split at e
 ·rename_i h'
  cases e
  exact ⟨_,_,_,h'⟩
 ·cases e
theorem cel_lt {h : H} {b : Nat} {cs : List Value} (e : cel h b = some cs) : b < h.size := by
 obtain ⟨_,_,_,e⟩ := cel_inv e
 exact lt_of_get e
theorem cel_congr {h h' : H} {b : Nat} (e : hget h' b = hget h b) : cel h' b = cel h b := by unfold cel;rw [e]
def KeptC (h h' : H) (L : List Nat) : Prop := h.size ≤ h'.size ∧ ∀ b,b < h.size → b ∉ L → cel h' b = cel h b
theorem KeptC.refl (h : H) (L : List Nat) : KeptC h h L := ⟨Nat.le_refl _,fun _ _ _ => rfl⟩
theorem KeptC.trans {h h1 h2 : H} {L : List Nat} (a : KeptC h h1 L) (b : KeptC h1 h2 L) : KeptC h h2 L :=
 ⟨Nat.le_trans a.1 b.1,fun x hx hs => (b.2 x (Nat.lt_of_lt_of_le hx a.1) hs).trans (a.2 x hx hs)⟩
theorem KeptC.weak {h h' : H} {L M : List Nat} (a : KeptC h h' L) (hs : ∀ b ∈ L,b ∈ M) : KeptC h h' M := ⟨a.1,fun b hb h => a.2 b hb fun q => h (hs b q)⟩
theorem Kept.c {h h' : H} {L : List Nat} (a : Kept h h' L) : KeptC h h' L := ⟨a.1,fun b hb hn => cel_congr (a.2 b hb hn)⟩
section
variable {α : Type}
def SlR (ok : Nat → Prop) (w : Nat) (R : H → List Value → α → Prop) (h : H) (v : Value) (xs : List α) : Prop :=
 ((v = .slice none 0 0 ∨ v = .slice (some ⟨0,0,some 0⟩) 0 0) ∧ xs = []) ∨
 ∃ b o c cs,v = .slice (some ⟨b,o,none⟩) xs.length c ∧ xs.length ≤ c ∧ ok b ∧ cel h b = some cs ∧ ∀ (i : Nat) (x : α),xs[i]? = some x → o + i * w + w ≤ cs.length ∧ R h ((cs.drop (o + i * w)).take w) x
variable {ok ok' : Nat → Prop} {w : Nat} {R R' : H → List Value → α → Prop} {h h' : H} {v : Value} {xs : List α} {L : List Nat}
theorem SlR.len (s : SlR ok w R h v xs) : lenV v = some (.int .i64 xs.length) := by
 rcases s with ⟨rfl | rfl,rfl⟩ | ⟨b,o,c,cs,rfl,_⟩ <;> simp [lenV]
theorem SlR.one (s : SlR ok w R h v xs) : oneCell v = true := by
 rcases s with ⟨rfl | rfl,rfl⟩ | ⟨b,o,c,cs,rfl,_⟩ <;> rfl
theorem SlR.vc (s : SlR ok w R h v xs) : vcells v = some [v] := by
 rcases s with ⟨rfl | rfl,rfl⟩ | ⟨b,o,c,cs,rfl,_⟩ <;> rfl
theorem SlR.same (s : SlR ok w R h v xs) : sameCell v v = true := by
 rcases s with ⟨rfl | rfl,rfl⟩ | ⟨b,o,c,cs,rfl,_⟩ <;> simp [sameCell]
theorem SlR.ne_text (s : SlR ok w R h v xs) : isText v = false := by
 rcases s with ⟨rfl | rfl,rfl⟩ | ⟨b,o,c,cs,rfl,_⟩ <;> rfl
theorem SlR.imp (s : SlR ok w R h v xs) (h1 : ∀ b,b < h.size → ok b → ok' b) (h2 : ∀ cs,∀ x ∈ xs,R h cs x → R' h' cs x) (h3 : ∀ b cs,ok b → cel h b = some cs → cel h' b = some cs) : SlR ok' w R' h' v xs := by
 rcases s with s | ⟨b,o,c,cs,e,hc,hk,hb,hi⟩
 ·exact .inl s
 ·refine .inr ⟨b,o,c,cs,e,hc,h1 b (cel_lt hb) hk,h3 b cs hk hb,fun i x hx => ⟨(hi i x hx).1,h2 _ _ (List.mem_of_getElem? hx) (hi i x hx).2⟩⟩
theorem SlR.kc (s : SlR ok w R h v xs) (k : KeptC h h' L) (hL : ∀ b ∈ L,¬ ok b) (hR : ∀ cs,∀ x ∈ xs,R h cs x → R h' cs x) : SlR ok w R h' v xs :=
 s.imp (fun _ _ q => q) hR fun b cs hk hb => (k.2 b (cel_lt hb) (fun q => hL b q hk)).trans hb
theorem SlR.row (s : SlR ok w R h v xs) (hne : 0 < xs.length) : ∃ b o c cs,v = .slice (some ⟨b,o,none⟩) xs.length c ∧ xs.length ≤ c ∧ ok b ∧ cel h b = some cs ∧ ∀ (i : Nat) (x : α),xs[i]? = some x → o + i * w + w ≤ cs.length ∧ R h ((cs.drop (o + i * w)).take w) x := by
 rcases s with ⟨_,rfl⟩ | s
 ·simp at hne
 ·exact s
theorem SlR.at' (s : SlR ok w R h v xs) {i : Nat} {x : α} (hx : xs[i]? = some x) : ∃ b o c cs es lv an,v = .slice (some ⟨b,o,none⟩) xs.length c ∧ ok b ∧ hget h b = some (.cells cs es lv an) ∧ o + i * w + w ≤ cs.length ∧ R h ((cs.drop (o + i * w)).take w) x := by
 have hi := (List.getElem?_eq_some_iff.1 hx).1
 obtain ⟨b,o,c,cs,e,_,hk,hb,hr⟩ := s.row (by omega)
 obtain ⟨es,lv,an,hg⟩ := cel_inv hb
 exact ⟨b,o,c,cs,es,lv,an,e,hk,hg,(hr i x hx).1,(hr i x hx).2⟩
theorem rowKept (h : H) (cs : List Value) (es : Nat) (an : List Nat) : Kept h (newRow h cs es an) [] := ⟨by simp,fun c hc _ => by simp [hc]⟩
def Bld (ok : Nat → Prop) (w : Nat) (R : H → List Value → α → Prop) (h : H) (v : Value) (xs : List α) : Prop :=
 (v = .slice none 0 0 ∧ xs = []) ∨
 ∃ b cs an,v = .slice (some ⟨b,0,none⟩) xs.length xs.length ∧ (ok b ∧ ∀ a ∈ an,ok a ∧ a < b) ∧ hget h b = some (.cells cs w true an) ∧ cs.length = xs.length * w ∧ ∀ (i : Nat) (x : α),xs[i]? = some x → R h ((cs.drop (i * w)).take w) x
theorem Bld.sl (s : Bld ok w R h v xs) : SlR ok w R h v xs := by
 rcases s with ⟨e,e'⟩ | ⟨b,cs,an,e,hk,hb,hl,hi⟩
 ·exact .inl ⟨.inl e,e'⟩
 ·refine .inr ⟨b,0,xs.length,cs,e,Nat.le_refl _,hk.1,cel_of hb,fun i x hx => ⟨?_,?_⟩⟩
  ·have hi' := (List.getElem?_eq_some_iff.1 hx).1
   have : (i + 1) * w ≤ xs.length * w := Nat.mul_le_mul_right _ hi'
   rw [Nat.add_mul] at this
   omega
  ·rw [Nat.zero_add];exact hi i x hx
theorem Bld.nil (ok : Nat → Prop) (w : Nat) (R : H → List Value → α → Prop) (h : H) : Bld ok w R h (.slice none 0 0) [] := .inl ⟨rfl,rfl⟩
theorem Bld.ne (s : Bld ok w R h v xs) {b : Nat} (hb : ¬ ok b) : ∀ o n c,v ≠ .slice (some ⟨b,o,none⟩) n c := by
 rintro o n c e
 rcases s with ⟨rfl,_⟩ | ⟨b',cs,an,e',hk,_⟩
 ·cases e
 ·rw [e'] at e
  injection e with e1
  injection e1 with e1
  injection e1 with e1
  exact hb (e1 ▸ hk.1)
theorem Bld.kept (s : Bld ok w R h v xs) (k : Kept h h' L) (hL : ∀ b ∈ L,¬ ok b) (hR : ∀ cs,∀ x ∈ xs,R h cs x → R h' cs x) : Bld ok w R h' v xs := by
 rcases s with s | ⟨b,cs,an,e,hk,hb,hl,hi⟩
 ·exact .inl s
 ·exact .inr ⟨b,cs,an,e,hk,(k.get (lt_of_get hb) (fun q => hL b q hk.1)).trans hb,hl,fun i x hx => hR _ _ (List.mem_of_getElem? hx) (hi i x hx)⟩
theorem Bld.imp (s : Bld ok w R h v xs) (h1 : ∀ b,b < h.size → ok b → ok' b) : Bld ok' w R h v xs := by
 rcases s with s | ⟨b,cs,an,e,hk,hb,q⟩
 ·exact .inl s
 ·have hs := lt_of_get hb
  exact .inr ⟨b,cs,an,e,⟨h1 b hs hk.1,fun a ha => ⟨h1 a (Nat.lt_trans (hk.2 a ha).2 hs) (hk.2 a ha).1,(hk.2 a ha).2⟩⟩,hb,q⟩
theorem Bld.frame (s : Bld ok w R h v xs) (k : Kept h h' []) (hR : ∀ cs x,R h cs x → R h' cs x) : Bld ok w R h' v xs :=
 s.kept k (by simp) fun cs x _ q => hR cs x q
theorem drop_take_append (cs new : List Value) (n w i : Nat) (hl : cs.length = n * w) (hi : i < n) : ((cs ++ new).drop (i * w)).take w = (cs.drop (i * w)).take w := by
 have h1 : (i + 1) * w ≤ n * w := Nat.mul_le_mul_right _ hi
 rw [Nat.add_mul] at h1
 rw [List.drop_append,List.take_append]
 have h2 : (List.drop (i * w) cs).length = n * w - i * w := by rw [List.length_drop,hl]
 have h3 : w - (List.drop (i * w) cs).length = 0 := by omega
 rw [h3,List.take_zero,List.append_nil]
theorem take_at_end (cs new : List Value) (n w : Nat) (hl : cs.length = n * w) (hn : new.length = w) : ((cs ++ new).drop (n * w)).take w = new := by
 rw [← hl,List.drop_left]
 exact List.take_of_length_le (by omega)
theorem take_in_end (cs new : List Value) (n w j : Nat) (hl : cs.length = n * w) : ((cs ++ new).drop ((n + j) * w)).take w = (new.drop (j * w)).take w := by
 rw [Nat.add_mul,← hl,← List.drop_drop,List.drop_left]
theorem Bld.appN {bytes : Nat} (s : Bld ok w R h v xs) {new : List Value} {ys : List α} (hn : new.length = ys.length * w) (hb : (xs.length + ys.length) * bytes ≤ 2 ^ 47)
  (hok : ok h.size) (hR : ∀ h',KeptC h h' [] → ∀ cs,∀ y ∈ xs,R h cs y → R h' cs y) (hx : ∀ h',KeptC h h' [] → ∀ (i : Nat) (y : α),ys[i]? = some y → R h' ((new.drop (i * w)).take w) y) :
  Ans (appendTo h w bytes v ys.length new) fun v' h' => Bld ok w R h' v' (xs ++ ys) ∧ KeptC h h' [] ∧ h'.size ≤ h.size + 1 ∧ (∀ b,b < h.size → (∀ o n c,v ≠ .slice (some ⟨b,o,none⟩) n c) → hget h' b = hget h b) ∧ (v' = v ∨ ∃ n c,v' = .slice (some ⟨h.size,0,none⟩) n c) := by
 by_cases hz : ys.length = 0
 ·have hys : ys = [] := List.length_eq_zero_iff.1 hz
  subst hys
  have e : appendTo h w bytes v 0 new = some (v,h) := by
   rcases s with ⟨rfl,rfl⟩ | ⟨b,cs,an,rfl,_⟩ <;> simp [appendTo]
  exact ⟨v,h,e,by simpa using s,KeptC.refl _ _,by omega,fun _ _ _ => rfl,.inl rfl⟩
 rcases s with ⟨rfl,rfl⟩ | ⟨b,cs,an,rfl,hk,hg,hl,hi⟩
 ·have kc : KeptC h (newRow h new w []) [] := ⟨by simp,fun c hc _ => cel_congr (by simp [hc])⟩
  have hb' : ys.length * bytes ≤ 140737488355328 := by simpa using hb
  have hz' : ¬ ys = [] := fun e => hz (by rw [e];rfl)
  refine ⟨.slice (some ⟨h.size,0,none⟩) ys.length ys.length,newRow h new w [],?_,?_,kc,by simp,fun c hc _ => by simp [hc],.inr ⟨_,_,rfl⟩⟩
  ·simp [appendTo,hb',hz']
  ·exact .inr ⟨h.size,new,[],rfl,⟨hok,by simp⟩,by simp,by simpa using hn,fun i y hy => hx _ kc i y (by simpa using hy)⟩
 ·have hbs := lt_of_get hg
  have kc : KeptC h (newRow (h.setIfInBounds b (.cells cs w false an)) (cs ++ new) w (b :: an)) [] := by
   refine ⟨by simp,fun c hc _ => ?_⟩
   by_cases e : b = c
   ·subst e
    rw [cel_of hg]
    exact cel_of (es := w) (lv := false) (an := an) (by simp [hbs])
   ·exact cel_congr (by simp [hc,e])
  have e2 : cs.take (xs.length * w) = cs := List.take_of_length_le (by omega)
  have hanc : ∀ a ∈ b :: an,ok a ∧ a < h.size := fun a ha => (List.mem_cons.1 ha).elim (fun e => e ▸ ⟨hk.1,hbs⟩) fun ha => ⟨(hk.2 a ha).1,Nat.lt_trans (hk.2 a ha).2 hbs⟩
  refine ⟨.slice (some ⟨h.size,0,none⟩) (xs.length + ys.length) (xs.length + ys.length),newRow (h.setIfInBounds b (.cells cs w false an)) (cs ++ new) w (b :: an),?_,?_,kc,by simp,?_,.inr ⟨_,_,rfl⟩⟩
  ·have hb' : (xs.length + ys.length) * bytes ≤ 140737488355328 := by simpa using hb
   have hz' : ¬ ys = [] := fun e => hz (by rw [e];rfl)
   have hnl : ¬ xs.length + ys.length ≤ xs.length := by omega
   simp [appendTo,hb',hg,hl,e2,hnl,hz']
  ·refine .inr ⟨h.size,cs ++ new,b :: an,by simp,⟨hok,hanc⟩,by simp,by simp [hl,hn,Nat.add_mul],?_⟩
   intro i y hy
   by_cases hi' : i < xs.length
   ·rw [List.getElem?_append_left hi'] at hy
    rw [drop_take_append cs new xs.length w i hl hi']
    exact hR _ kc _ _ (List.mem_of_getElem? hy) (hi i y hy)
   ·rw [List.getElem?_append_right (by omega)] at hy
    have := take_in_end cs new xs.length w (i - xs.length) hl
    rw [show xs.length + (i - xs.length) = i by omega] at this
    rw [this]
    exact hx _ kc _ _ hy
  ·intro c hc hn'
   have : ¬ b = c := fun e => hn' 0 _ _ (by rw [e])
   simp [hc,this]
theorem Bld.app {bytes : Nat} (s : Bld ok w R h v xs) {new : List Value} {x : α} (hn : new.length = w) (hb : (xs.length + 1) * bytes ≤ 2 ^ 47)
  (hok : ok h.size) (hR : ∀ h',KeptC h h' [] → ∀ cs,∀ y ∈ xs,R h cs y → R h' cs y) (hx : ∀ h',KeptC h h' [] → R h' new x) :
  Ans (appendTo h w bytes v 1 new) fun v' h' => Bld ok w R h' v' (xs ++ [x]) ∧ KeptC h h' [] ∧ h'.size ≤ h.size + 1 ∧ (∀ b,b < h.size → (∀ o n c,v ≠ .slice (some ⟨b,o,none⟩) n c) → hget h' b = hget h b) ∧ (v' = v ∨ ∃ n c,v' = .slice (some ⟨h.size,0,none⟩) n c) := by
 refine s.appN (ys := [x]) (by simpa using hn) hb hok hR fun h' k i y hy => ?_
 cases i with
 | succ i => simp at hy
 | zero =>
  simp at hy
  subst hy
  rw [Nat.zero_mul,List.drop_zero,List.take_of_length_le (by omega)]
  exact hx h' k
theorem SlR.src (s : SlR ok w R h v xs) (hw : 0 < w) (hcs : ∀ cs,∀ x ∈ xs,R h cs x → cs.length = w) : ∃ new,srcOf h w v = some (xs.length,new) ∧ new.length = xs.length * w ∧ ∀ (i : Nat) (x : α),xs[i]? = some x → R h ((new.drop (i * w)).take w) x := by
 rcases s with ⟨rfl | rfl,rfl⟩ | ⟨b,o,c,cs,rfl,hc,hk,hb,hi⟩
 ·exact ⟨[],by simp [srcOf],by simp,by simp⟩
 ·exact ⟨[],by simp [srcOf],by simp,by simp⟩
 ·obtain ⟨es',lv,an,hg⟩ := cel_inv hb
  by_cases hz : xs.length = 0
  ·have hx : xs = [] := List.length_eq_zero_iff.1 hz
   subst hx
   exact ⟨[],by simp [srcOf],by simp,by simp⟩
  ·have hlast := hi (xs.length - 1) xs[xs.length - 1] (List.getElem?_eq_getElem (by omega))
   have hle : o + xs.length * w ≤ cs.length := by
    have h1 := hlast.1
    have : (xs.length - 1) * w + w = xs.length * w := by
     rw [← Nat.succ_mul];congr 1;omega
    omega
   refine ⟨(cs.drop o).take (xs.length * w),?_,?_,?_⟩
   ·simp [srcOf,hz,rd,hg,hle]
   ·rw [List.length_take,List.length_drop];omega
   ·intro i x hx
    have hi' := (List.getElem?_eq_some_iff.1 hx).1
    have h1 : (i + 1) * w ≤ xs.length * w := Nat.mul_le_mul_right _ hi'
    rw [Nat.add_mul] at h1
    have := (hi i x hx).2
    rw [List.drop_take,List.take_take,List.drop_drop,Nat.min_eq_left (by omega)]
    exact this
end
end Go.Ev
namespace Go.Ev
abbrev Bs := List UInt8
def bs (t : ByteArray) : List UInt8 := t.data.toList
@[simp] theorem bs_len (t : ByteArray) : (bs t).length = slen t := by simp [bs]
theorem bs_mk (l : List UInt8) : bs ⟨⟨l⟩⟩ = l := rfl
theorem bs_inj {a b : ByteArray} (h : bs a = bs b) : a = b := by
 cases a with
 | mk a => cases b with
  | mk b => simp only [bs] at h;congr 1;exact Array.ext' h
theorem bs_app (a b : ByteArray) : bs (a ++ b) = bs a ++ bs b := by
 simp [bs,ByteArray.data_append]
theorem bs_ext (t : ByteArray) (p q : Nat) : bs (t.extract p q) = ((bs t).drop p).take (q - p) := by
 simp [bs,ByteArray.data_extract,List.take_drop]
theorem bs_nil {t : ByteArray} (h : bs t = []) : t = .empty := bs_inj (by rw [h];rfl)
@[simp] theorem bs_empty : bs .empty = [] := rfl
theorem slen_of {t : ByteArray} {l : List UInt8} (h : bs t = l) : slen t = l.length := by rw [← h,bs_len]
@[simp] theorem slen_app (a b : ByteArray) : slen (a ++ b) = slen a + slen b := by rw [← bs_len,bs_app,List.length_append,bs_len,bs_len]
theorem slen_ext (t : ByteArray) {p q : Nat} (h : p ≤ q) (hq : q ≤ slen t) : slen (t.extract p q) = q - p := by
 rw [← bs_len,bs_ext,List.length_take,List.length_drop,bs_len];omega
theorem data_get (t : ByteArray) (j : Nat) : t.data[j]? = (bs t)[j]? := by simp [bs]
theorem ba_beq (a b : ByteArray) : (a == b) = decide (bs a = bs b) := by
 by_cases h : bs a = bs b
 ·have := bs_inj h
  subst this
  rw [ba_self];simp
 ·rw [decide_eq_false h]
  cases hb : (a == b) with
  | false => rfl
  | true => exact absurd (congrArg bs ((MapKept.bytes_beq a b).1 hb)) h
theorem ba_bne (a b : ByteArray) : (a != b) = !decide (bs a = bs b) := by
 show (!(a == b)) = _
 rw [ba_beq]
def vb (c : UInt8) : Value := .int .u8 c.toNat
theorem vb_eq (c : UInt8) : vb c = .int .u8 c.toNat := rfl
def atS (t : ByteArray) (j : Int) (h : H) : Option (Value × H) := if 0 ≤ j then (t.data[j.toNat]?).map fun (c : UInt8) => (.int .u8 c.toNat,h) else none
theorem atS_get {t : ByteArray} {j : Int} {h : H} {c : UInt8} (h0 : 0 ≤ j) (hc : (bs t)[j.toNat]? = some c) : atS t j h = some (.int .u8 c.toNat,h) := by
 unfold atS
 rw [if_pos h0,data_get,hc];rfl
theorem atS_nat {t : ByteArray} {i : Nat} {h : H} {c : UInt8} (hc : (bs t)[i]? = some c) : atS t (i : Int) h = some (.int .u8 c.toNat,h) := atS_get (by omega) (by simpa using hc)
def ixS (v i : Value) (h : H) : Option (Value × H) := match v,i with
 | .string t,.int _ j => atS t j h
 | _,_ => none
@[simp] theorem ixS_eq (t : ByteArray) (k : IntKind) (j : Int) (h : H) : ixS (.string t) (.int k j) h = atS t j h := nr rfl
@[simp ↓ high] theorem evOp_indexStr {x i : Operand} {s : Env} {h : H} : evOp (.indexStr x i) s h = ixS (aeval s x) (aeval s i) h := by
 show (match aeval s x,aeval s i with
  | .string t,.int _ j => if 0 ≤ j then (t.data[j.toNat]?).map fun (c : UInt8) => (Value.int .u8 c.toNat,h) else none
  | _,_ => none) = _
 unfold ixS atS
 rfl
def cutS (t : ByteArray) (p q : Nat) (h : H) : Option (Value × H) := if p ≤ q ∧ q ≤ slen t then some (.string (t.extract p q),h) else none
theorem cutS_ok {t : ByteArray} {p q : Nat} {h : H} (h1 : p ≤ q) (h2 : q ≤ slen t) : cutS t p q h = some (.string (t.extract p q),h) := if_pos ⟨h1,h2⟩
def pcS (v : Value) (lo hi : Option Value) (h : H) : Option (Value × H) := match v with
 | .string t => match optInt hi (slen t) with
  | some q => match optInt lo 0 with
   | some p => cutS t p q h
   | none => none
  | none => none
 | _ => none
@[simp ↓ high] theorem evOp_sliceStr {x : Operand} {lo hi : Option Operand} {s : Env} {h : H} : evOp (.sliceStr x lo hi) s h = pcS (aeval s x) (lo.map (aeval s)) (hi.map (aeval s)) h := by
 simp only [evOp,pcS,cutS]
 rfl
theorem pcS_eq (t : ByteArray) (lo hi : Option Value) (h : H) : pcS (.string t) lo hi h = match optInt hi (slen t) with
  | some q => match optInt lo 0 with
   | some p => cutS t p q h
   | none => none
  | none => none := nr rfl
section
variable {cx : Cx} {d : Option Nat} {os : List AOper} {s s0 e : Env} {h h' : H} {kn : K} {keep : List Nat} {ds : Ds} {v : Value} {l ops : List DOp} {pn : Bool} {ts : List TR} {q : DK}
theorem nextC_ok (hv : isPan v = false) : nextC (some (v,h')) cx d os s kn keep ds = evR cx os (setD s d v) h' kn keep ds := by
 rw [nextC_some,hv];rfl
theorem nextCE_ok (hv : isPan v = false) : nextCE (some (v,h')) pn cx d l s kn keep ds ops s0 = evE cx l (setD s d v) h' kn keep ds ops s0 := by
 rw [nextCE_some,hv];rfl
theorem nextCD_ok (hv : isPan v = false) : nextCD (some (v,h')) pn cx d l ts e s h q s0 = evD cx l (ts ++ [⟨e,h,true,v⟩]) (setD s d v) h' q s0 := by
 rw [nextCD_some,hv];rfl
@[simp high] theorem nextC_bool (b : Bool) : nextC (some ((.bool b),h')) cx d os s kn keep ds = evR cx os (setD s d (.bool b)) h' kn keep ds := nextC_ok (by simp)
@[simp high] theorem nextCE_bool (b : Bool) : nextCE (some ((.bool b),h')) pn cx d l s kn keep ds ops s0 = evE cx l (setD s d (.bool b)) h' kn keep ds ops s0 := nextCE_ok (by simp)
@[simp high] theorem nextCD_bool (b : Bool) : nextCD (some ((.bool b),h')) pn cx d l ts e s h q s0 = evD cx l (ts ++ [⟨e,h,true,(.bool b)⟩]) (setD s d (.bool b)) h' q s0 := nextCD_ok (by simp)
@[simp high] theorem nextC_int (K : IntKind) (z : Int) : nextC (some ((.int K z),h')) cx d os s kn keep ds = evR cx os (setD s d (.int K z)) h' kn keep ds := nextC_ok (by simp)
@[simp high] theorem nextCE_int (K : IntKind) (z : Int) : nextCE (some ((.int K z),h')) pn cx d l s kn keep ds ops s0 = evE cx l (setD s d (.int K z)) h' kn keep ds ops s0 := nextCE_ok (by simp)
@[simp high] theorem nextCD_int (K : IntKind) (z : Int) : nextCD (some ((.int K z),h')) pn cx d l ts e s h q s0 = evD cx l (ts ++ [⟨e,h,true,(.int K z)⟩]) (setD s d (.int K z)) h' q s0 := nextCD_ok (by simp)
@[simp high] theorem nextC_string (t : ByteArray) : nextC (some ((.string t),h')) cx d os s kn keep ds = evR cx os (setD s d (.string t)) h' kn keep ds := nextC_ok (by simp)
@[simp high] theorem nextCE_string (t : ByteArray) : nextCE (some ((.string t),h')) pn cx d l s kn keep ds ops s0 = evE cx l (setD s d (.string t)) h' kn keep ds ops s0 := nextCE_ok (by simp)
@[simp high] theorem nextCD_string (t : ByteArray) : nextCD (some ((.string t),h')) pn cx d l ts e s h q s0 = evD cx l (ts ++ [⟨e,h,true,(.string t)⟩]) (setD s d (.string t)) h' q s0 := nextCD_ok (by simp)
@[simp high] theorem nextC_ptr (a : Option Addr) : nextC (some ((.pointer a),h')) cx d os s kn keep ds = evR cx os (setD s d (.pointer a)) h' kn keep ds := nextC_ok (by simp)
@[simp high] theorem nextCE_ptr (a : Option Addr) : nextCE (some ((.pointer a),h')) pn cx d l s kn keep ds ops s0 = evE cx l (setD s d (.pointer a)) h' kn keep ds ops s0 := nextCE_ok (by simp)
@[simp high] theorem nextCD_ptr (a : Option Addr) : nextCD (some ((.pointer a),h')) pn cx d l ts e s h q s0 = evD cx l (ts ++ [⟨e,h,true,(.pointer a)⟩]) (setD s d (.pointer a)) h' q s0 := nextCD_ok (by simp)
@[simp high] theorem nextC_slice (a : Option Addr) (n c : Nat) : nextC (some ((.slice a n c),h')) cx d os s kn keep ds = evR cx os (setD s d (.slice a n c)) h' kn keep ds := nextC_ok (by simp)
@[simp high] theorem nextCE_slice (a : Option Addr) (n c : Nat) : nextCE (some ((.slice a n c),h')) pn cx d l s kn keep ds ops s0 = evE cx l (setD s d (.slice a n c)) h' kn keep ds ops s0 := nextCE_ok (by simp)
@[simp high] theorem nextCD_slice (a : Option Addr) (n c : Nat) : nextCD (some ((.slice a n c),h')) pn cx d l ts e s h q s0 = evD cx l (ts ++ [⟨e,h,true,(.slice a n c)⟩]) (setD s d (.slice a n c)) h' q s0 := nextCD_ok (by simp)
@[simp high] theorem nextC_agg (a : Array Value) : nextC (some ((.agg a),h')) cx d os s kn keep ds = evR cx os (setD s d (.agg a)) h' kn keep ds := nextC_ok (by simp)
@[simp high] theorem nextCE_agg (a : Array Value) : nextCE (some ((.agg a),h')) pn cx d l s kn keep ds ops s0 = evE cx l (setD s d (.agg a)) h' kn keep ds ops s0 := nextCE_ok (by simp)
@[simp high] theorem nextCD_agg (a : Array Value) : nextCD (some ((.agg a),h')) pn cx d l ts e s h q s0 = evD cx l (ts ++ [⟨e,h,true,(.agg a)⟩]) (setD s d (.agg a)) h' q s0 := nextCD_ok (by simp)
@[simp high] theorem nextC_iface (ty : TypeId) (u : Value) : nextC (some ((.iface ty u),h')) cx d os s kn keep ds = evR cx os (setD s d (.iface ty u)) h' kn keep ds := nextC_ok (by simp)
@[simp high] theorem nextCE_iface (ty : TypeId) (u : Value) : nextCE (some ((.iface ty u),h')) pn cx d l s kn keep ds ops s0 = evE cx l (setD s d (.iface ty u)) h' kn keep ds ops s0 := nextCE_ok (by simp)
@[simp high] theorem nextCD_iface (ty : TypeId) (u : Value) : nextCD (some ((.iface ty u),h')) pn cx d l ts e s h q s0 = evD cx l (ts ++ [⟨e,h,true,(.iface ty u)⟩]) (setD s d (.iface ty u)) h' q s0 := nextCD_ok (by simp)
@[simp high] theorem nextC_nif  : nextC (some (.nilIface,h')) cx d os s kn keep ds = evR cx os (setD s d .nilIface) h' kn keep ds := nextC_ok (by simp)
@[simp high] theorem nextCE_nif  : nextCE (some (.nilIface,h')) pn cx d l s kn keep ds ops s0 = evE cx l (setD s d .nilIface) h' kn keep ds ops s0 := nextCE_ok (by simp)
@[simp high] theorem nextCD_nif  : nextCD (some (.nilIface,h')) pn cx d l ts e s h q s0 = evD cx l (ts ++ [⟨e,h,true,.nilIface⟩]) (setD s d .nilIface) h' q s0 := nextCD_ok (by simp)
@[simp high] theorem nextC_t0  : nextC (some ((.tuple ⟨[]⟩),h')) cx d os s kn keep ds = evR cx os (setD s d (.tuple ⟨[]⟩)) h' kn keep ds := nextC_ok (by simp)
@[simp high] theorem nextCE_t0  : nextCE (some ((.tuple ⟨[]⟩),h')) pn cx d l s kn keep ds ops s0 = evE cx l (setD s d (.tuple ⟨[]⟩)) h' kn keep ds ops s0 := nextCE_ok (by simp)
@[simp high] theorem nextCD_t0  : nextCD (some ((.tuple ⟨[]⟩),h')) pn cx d l ts e s h q s0 = evD cx l (ts ++ [⟨e,h,true,(.tuple ⟨[]⟩)⟩]) (setD s d (.tuple ⟨[]⟩)) h' q s0 := nextCD_ok (by simp)
@[simp high] theorem nextC_t2 (x y : Value) : nextC (some ((.tuple ⟨[x,y]⟩),h')) cx d os s kn keep ds = evR cx os (setD s d (.tuple ⟨[x,y]⟩)) h' kn keep ds := nextC_ok (by simp)
@[simp high] theorem nextCE_t2 (x y : Value) : nextCE (some ((.tuple ⟨[x,y]⟩),h')) pn cx d l s kn keep ds ops s0 = evE cx l (setD s d (.tuple ⟨[x,y]⟩)) h' kn keep ds ops s0 := nextCE_ok (by simp)
@[simp high] theorem nextCD_t2 (x y : Value) : nextCD (some ((.tuple ⟨[x,y]⟩),h')) pn cx d l ts e s h q s0 = evD cx l (ts ++ [⟨e,h,true,(.tuple ⟨[x,y]⟩)⟩]) (setD s d (.tuple ⟨[x,y]⟩)) h' q s0 := nextCD_ok (by simp)
@[simp high] theorem nextC_t3i (K : IntKind) (z : Int) (x y : Value) : nextC (some ((.tuple ⟨[.int K z,x,y]⟩),h')) cx d os s kn keep ds = evR cx os (setD s d (.tuple ⟨[.int K z,x,y]⟩)) h' kn keep ds := nextC_ok (by simp)
@[simp high] theorem nextCE_t3i (K : IntKind) (z : Int) (x y : Value) : nextCE (some ((.tuple ⟨[.int K z,x,y]⟩),h')) pn cx d l s kn keep ds ops s0 = evE cx l (setD s d (.tuple ⟨[.int K z,x,y]⟩)) h' kn keep ds ops s0 := nextCE_ok (by simp)
@[simp high] theorem nextCD_t3i (K : IntKind) (z : Int) (x y : Value) : nextCD (some ((.tuple ⟨[.int K z,x,y]⟩),h')) pn cx d l ts e s h q s0 = evD cx l (ts ++ [⟨e,h,true,(.tuple ⟨[.int K z,x,y]⟩)⟩]) (setD s d (.tuple ⟨[.int K z,x,y]⟩)) h' q s0 := nextCD_ok (by simp)
@[simp high] theorem nextC_t3s (t : ByteArray) (x y : Value) : nextC (some ((.tuple ⟨[.string t,x,y]⟩),h')) cx d os s kn keep ds = evR cx os (setD s d (.tuple ⟨[.string t,x,y]⟩)) h' kn keep ds := nextC_ok (by simp)
@[simp high] theorem nextCE_t3s (t : ByteArray) (x y : Value) : nextCE (some ((.tuple ⟨[.string t,x,y]⟩),h')) pn cx d l s kn keep ds ops s0 = evE cx l (setD s d (.tuple ⟨[.string t,x,y]⟩)) h' kn keep ds ops s0 := nextCE_ok (by simp)
@[simp high] theorem nextCD_t3s (t : ByteArray) (x y : Value) : nextCD (some ((.tuple ⟨[.string t,x,y]⟩),h')) pn cx d l ts e s h q s0 = evD cx l (ts ++ [⟨e,h,true,(.tuple ⟨[.string t,x,y]⟩)⟩]) (setD s d (.tuple ⟨[.string t,x,y]⟩)) h' q s0 := nextCD_ok (by simp)
@[simp high] theorem nextC_t3a (a : Array Value) (x y : Value) : nextC (some ((.tuple ⟨[.agg a,x,y]⟩),h')) cx d os s kn keep ds = evR cx os (setD s d (.tuple ⟨[.agg a,x,y]⟩)) h' kn keep ds := nextC_ok (by simp)
@[simp high] theorem nextCE_t3a (a : Array Value) (x y : Value) : nextCE (some ((.tuple ⟨[.agg a,x,y]⟩),h')) pn cx d l s kn keep ds ops s0 = evE cx l (setD s d (.tuple ⟨[.agg a,x,y]⟩)) h' kn keep ds ops s0 := nextCE_ok (by simp)
@[simp high] theorem nextCD_t3a (a : Array Value) (x y : Value) : nextCD (some ((.tuple ⟨[.agg a,x,y]⟩),h')) pn cx d l ts e s h q s0 = evD cx l (ts ++ [⟨e,h,true,(.tuple ⟨[.agg a,x,y]⟩)⟩]) (setD s d (.tuple ⟨[.agg a,x,y]⟩)) h' q s0 := nextCD_ok (by simp)
@[simp high] theorem nextC_t3l (a : Option Addr) (n c : Nat) (x y : Value) : nextC (some ((.tuple ⟨[.slice a n c,x,y]⟩),h')) cx d os s kn keep ds = evR cx os (setD s d (.tuple ⟨[.slice a n c,x,y]⟩)) h' kn keep ds := nextC_ok (by simp)
@[simp high] theorem nextCE_t3l (a : Option Addr) (n c : Nat) (x y : Value) : nextCE (some ((.tuple ⟨[.slice a n c,x,y]⟩),h')) pn cx d l s kn keep ds ops s0 = evE cx l (setD s d (.tuple ⟨[.slice a n c,x,y]⟩)) h' kn keep ds ops s0 := nextCE_ok (by simp)
@[simp high] theorem nextCD_t3l (a : Option Addr) (n c : Nat) (x y : Value) : nextCD (some ((.tuple ⟨[.slice a n c,x,y]⟩),h')) pn cx d l ts e s h q s0 = evD cx l (ts ++ [⟨e,h,true,(.tuple ⟨[.slice a n c,x,y]⟩)⟩]) (setD s d (.tuple ⟨[.slice a n c,x,y]⟩)) h' q s0 := nextCD_ok (by simp)
@[simp high] theorem nextC_t4 (x y z w : Value) (r : List Value) : nextC (some ((.tuple ⟨x :: y :: z :: w :: r⟩),h')) cx d os s kn keep ds = evR cx os (setD s d (.tuple ⟨x :: y :: z :: w :: r⟩)) h' kn keep ds := nextC_ok (by simp)
@[simp high] theorem nextCE_t4 (x y z w : Value) (r : List Value) : nextCE (some ((.tuple ⟨x :: y :: z :: w :: r⟩),h')) pn cx d l s kn keep ds ops s0 = evE cx l (setD s d (.tuple ⟨x :: y :: z :: w :: r⟩)) h' kn keep ds ops s0 := nextCE_ok (by simp)
@[simp high] theorem nextCD_t4 (x y z w : Value) (r : List Value) : nextCD (some ((.tuple ⟨x :: y :: z :: w :: r⟩),h')) pn cx d l ts e s h q s0 = evD cx l (ts ++ [⟨e,h,true,(.tuple ⟨x :: y :: z :: w :: r⟩)⟩]) (setD s d (.tuple ⟨x :: y :: z :: w :: r⟩)) h' q s0 := nextCD_ok (by simp)
theorem nextC_pan (hv : isPan v = true) : nextC (some (v,h')) cx d os s kn keep ds = cx.p v s h' ds := by
 rw [nextC_some,hv];rfl
theorem nextCE_pan (hv : isPan v = true) : nextCE (some (v,h')) true cx d l s kn keep ds ops s0 = cx.p v (rest s0 ops) h' ds := by
 rw [nextCE_some,hv];rfl
theorem nextCD_pan (hv : isPan v = true) : nextCD (some (v,h')) true cx d l ts e s h q s0 = q.pan cx (ts ++ ⟨e,h,true,v⟩ :: blanks h' l) s0 h' v := by
 rw [nextCD_some,hv];rfl
@[simp high] theorem nextC_pv (x : Value) : nextC (some (pv x,h')) cx d os s kn keep ds = cx.p (pv x) s h' ds := nextC_pan (by simp)
@[simp high] theorem nextCE_pv (x : Value) : nextCE (some (pv x,h')) true cx d l s kn keep ds ops s0 = cx.p (pv x) (rest s0 ops) h' ds := nextCE_pan (by simp)
@[simp high] theorem nextCD_pv (x : Value) : nextCD (some (pv x,h')) true cx d l ts e s h q s0 = q.pan cx (ts ++ ⟨e,h,true,pv x⟩ :: blanks h' l) s0 h' (pv x) := nextCD_pan (by simp)
theorem Ans.nextC {x : Option (Value × H)} {Q R : Value → H → Prop} (a : Ans x Q) (hk : ∀ v h',Q v h' → Ans (Ev.nextC (some (v,h')) cx d os s kn keep ds) R) : Ans (Ev.nextC x cx d os s kn keep ds) R := by
 obtain ⟨v,h',rfl,q⟩ := a;exact hk v h' q
end
theorem byte_beq (c : UInt8) (n : Nat) (hn : n < 256) : ((c.toNat : Int) == (n : Int)) = decide (c = UInt8.ofNat n) := by
 by_cases h : c = UInt8.ofNat n
 ·subst h
  simp [UInt8.toNat_ofNat,Nat.mod_eq_of_lt hn]
 ·rw [decide_eq_false h]
  simp only [beq_eq_false_iff_ne,ne_eq]
  intro e
  apply h
  have : c.toNat = n := by omega
  rw [← this,UInt8.ofNat_toNat]
def ofB (l : Bs) : ByteArray := ⟨⟨l⟩⟩
@[simp] theorem bs_ofB (l : Bs) : bs (ofB l) = l := rfl
theorem ofB_bs (t : ByteArray) : ofB (bs t) = t := rfl
@[simp] theorem slen_ofB (l : Bs) : slen (ofB l) = l.length := by rw [← bs_len,bs_ofB]
theorem ofB_of {t : ByteArray} {l : Bs} (h : bs t = l) : t = ofB l := by rw [← h,ofB_bs]
theorem ofB_inj {a b : Bs} (h : ofB a = ofB b) : a = b := by have := congrArg bs h;simpa using this
theorem ofB_beq (a b : Bs) : (ofB a == ofB b) = decide (a = b) := by rw [ba_beq];rfl
theorem ofB_bne (a b : Bs) : (ofB a != ofB b) = !decide (a = b) := by rw [ba_bne];rfl
theorem ofB_app (a b : Bs) : ofB a ++ ofB b = ofB (a ++ b) := bs_inj (by rw [bs_app];rfl)
theorem ofB_ext (l : Bs) (p q : Nat) : (ofB l).extract p q = ofB ((l.drop p).take (q - p)) := bs_inj (by rw [bs_ext];rfl)
theorem atS_ofB {l : Bs} {i : Nat} {h : H} {c : UInt8} (hc : l[i]? = some c) : atS (ofB l) (i : Int) h = some (.int .u8 c.toNat,h) := atS_nat (by simpa using hc)
theorem cutS_ofB {l : Bs} {p q : Nat} {h : H} (h1 : p ≤ q) (h2 : q ≤ l.length) : cutS (ofB l) p q h = some (.string (ofB ((l.drop p).take (q - p))),h) := by
 rw [cutS_ok h1 (by simpa using h2),ofB_ext]
abbrev vi (n : Int) : Value := .int .i64 n
abbrev vs (l : Bs) : Value := .string (ofB l)
end Go.Ev
namespace Go.Ev
abbrev Col := Nat
abbrev Kp := Nat → Col
def ext (κ : Kp) (n : Nat) (t : Col) : Kp := fun c => if c < n then κ c else t
theorem ext_lt {κ : Kp} {n : Nat} {t : Col} {c : Nat} (h : c < n) : ext κ n t c = κ c := by simp [ext,h]
theorem ext_ge {κ : Kp} {n : Nat} {t : Col} {c : Nat} (h : n ≤ c) : ext κ n t c = t := by simp [ext];omega
def Agr (n : Nat) (κ κ' : Kp) : Prop := ∀ c,c < n → κ' c = κ c
theorem Agr.refl (n : Nat) (κ : Kp) : Agr n κ κ := fun _ _ => rfl
theorem Agr.trans {n m : Nat} {κ κ1 κ2 : Kp} (a : Agr n κ κ1) (b : Agr m κ1 κ2) (h : n ≤ m) : Agr n κ κ2 := fun c hc => (b c (Nat.lt_of_lt_of_le hc h)).trans (a c hc)
theorem Agr.ext {n m : Nat} {t : Col} {κ : Kp} (h : n ≤ m) : Agr n κ (ext κ m t) := fun c hc => ext_lt (Nat.lt_of_lt_of_le hc h)
def Ch (κ : Kp) (S : Col → Prop) (g g' : H) : Prop := g.size ≤ g'.size ∧ ∀ c,c < g.size → ¬ S (κ c) → hget g' c = hget g c
def no : Col → Prop := fun _ => False
theorem Ch.refl (κ : Kp) (S : Col → Prop) (g : H) : Ch κ S g g := ⟨Nat.le_refl _,fun _ _ _ => rfl⟩
theorem Ch.of {κ : Kp} {S : Col → Prop} {g g' : H} (k : Kept g g' []) : Ch κ S g g' := ⟨k.1,fun c hc _ => k.get hc (by simp)⟩
theorem Ch.ofL {κ : Kp} {S : Col → Prop} {g g' : H} {L : List Nat} (k : Kept g g' L) (hL : ∀ c ∈ L,S (κ c)) : Ch κ S g g' := ⟨k.1,fun c hc hn => k.get hc (fun q => hn (hL c q))⟩
theorem Ch.trans {κ κ' : Kp} {S : Col → Prop} {g g1 g2 : H} (a : Ch κ S g g1) (b : Ch κ' S g1 g2) (hk : Agr g.size κ κ') : Ch κ S g g2 := ⟨Nat.le_trans a.1 b.1,fun c hc hn =>
 (b.2 c (Nat.lt_of_lt_of_le hc a.1) (by rw [hk c hc];exact hn)).trans (a.2 c hc hn)⟩
theorem Ch.weak {κ : Kp} {S S' : Col → Prop} {g g' : H} (a : Ch κ S g g') (h : ∀ c,S c → S' c) : Ch κ S' g g' := ⟨a.1,fun c hc hn => a.2 c hc (fun q => hn (h _ q))⟩
theorem Ch.get {κ : Kp} {S : Col → Prop} {g g' : H} (k : Ch κ S g g') {c : Nat} {x : Blk} (h : hget g c = some x) (hn : ¬ S (κ c)) : hget g' c = some x := (k.2 c (lt_of_get h) hn).trans h
theorem Ch.cel {κ : Kp} {S : Col → Prop} {g g' : H} (k : Ch κ S g g') {c : Nat} {cs : List Value} (h : cel g c = some cs) (hn : ¬ S (κ c)) : cel g' c = some cs := (cel_congr (k.2 c (cel_lt h) hn)).trans h
abbrev PrC : H → List Value → (List Value → Prop) → Prop := fun _ cs p => p cs
def Fr (ok : Nat → Prop) (h h' : H) : Prop := h.size ≤ h'.size ∧ ∀ c,c < h.size → ¬ ok c → hget h' c = hget h c
theorem Fr.refl (ok : Nat → Prop) (h : H) : Fr ok h h := ⟨Nat.le_refl _,fun _ _ _ => rfl⟩
theorem Fr.get {ok : Nat → Prop} {h h' : H} (k : Fr ok h h') {c : Nat} {x : Blk} (e : hget h c = some x) (hn : ¬ ok c) : hget h' c = some x := (k.2 c (lt_of_get e) hn).trans e
section
variable {α β : Type} {ok ok' : Nat → Prop} {w : Nat} {R R2 : H → List Value → α → Prop} {R' : H → List Value → β → Prop} {h h' : H} {v : Value} {xs : List α} {κ κ' : Kp} {S : Col → Prop} {col : Col}
theorem Bld.to' {ys : List β} (s : Bld ok w R h v xs) (hz : h.size ≤ h'.size) (hl : ys.length = xs.length) (hok : ∀ c,c < h.size → ok c → ok' c) (hg : ∀ c x,hget h c = some x → ok c → hget h' c = some x)
  (hR : ∀ cs (i : Nat) x y,xs[i]? = some x → ys[i]? = some y → R h cs x → R' h' cs y) : Bld ok' w R' h' v ys := by
 rcases s with ⟨e,e'⟩ | ⟨b,cs,an,e,⟨hk,ha⟩,hb,hcl,hi⟩
 ·subst e'
  exact .inl ⟨e,List.length_eq_zero_iff.1 hl⟩
 ·have hs := lt_of_get hb
  refine .inr ⟨b,cs,an,by rw [hl];exact e,⟨hok b hs hk,fun a q => ⟨hok a (Nat.lt_trans (ha a q).2 hs) (ha a q).1,(ha a q).2⟩⟩,hg b _ hb hk,by rw [hl];exact hcl,fun i y hy => ?_⟩
  have hi' := (List.getElem?_eq_some_iff.1 hy).1
  obtain ⟨x,hx⟩ : ∃ x,xs[i]? = some x := ⟨_,List.getElem?_eq_getElem (by omega)⟩
  exact hR _ i x y hx hy (hi i x hx)
theorem Bld.tr (s : Bld (fun c => κ c = col) w R h v xs) (k : Ch κ S h h') (hS : ¬ S col) (hk : Agr h.size κ κ')
  (hR : ∀ cs (i : Nat) x,xs[i]? = some x → R h cs x → R2 h' cs x) : Bld (fun c => κ' c = col) w R2 h' v xs :=
 s.to' k.1 rfl (fun c hc q => (hk c hc).trans q) (fun c x e q => k.get e (by rw [q];exact hS)) (fun cs i x y hx hy q => by rw [hx] at hy;cases hy;exact hR cs i x hx q)
theorem SlR.trC {R2 : H → List Value → α → Prop} (s : SlR (fun c => κ c = col) w R h v xs) (k : Ch κ S h h') (hS : ¬ S col) (hk : Agr h.size κ κ') (hR : ∀ cs,∀ x ∈ xs,R h cs x → R2 h' cs x) : SlR (fun c => κ' c = col) w R2 h' v xs :=
 s.imp (fun c hc q => (hk c hc).trans q) hR (fun c cs q e => k.cel e (by rw [q];exact hS))
theorem Bld.appF {bytes : Nat} (s : Bld ok w R h v xs) {new : List Value} {ys : List α} (hn : new.length = ys.length * w) (hb : (xs.length + ys.length) * bytes ≤ 2 ^ 47)
  (hok : ok h.size) (hR : ∀ h',Fr ok h h' → ∀ cs (i : Nat) y,xs[i]? = some y → R h cs y → R2 h' cs y) (hx : ∀ h',Fr ok h h' → ∀ (i : Nat) (y : α),ys[i]? = some y → R2 h' ((new.drop (i * w)).take w) y) :
  Ans (appendTo h w bytes v ys.length new) fun v' h' => Bld ok w R2 h' v' (xs ++ ys) ∧ Fr ok h h' ∧ KeptC h h' [] := by
 by_cases hz : ys.length = 0
 ·have hys : ys = [] := List.length_eq_zero_iff.1 hz
  subst hys
  have e : appendTo h w bytes v 0 new = some (v,h) := by
   rcases s with ⟨rfl,rfl⟩ | ⟨b,cs,an,rfl,_⟩ <;> simp [appendTo]
  exact ⟨v,h,e,by simpa using s.to' (Nat.le_refl _) rfl (fun _ _ q => q) (fun _ _ e _ => e) (fun cs i x y hx hy q => by rw [hx] at hy;cases hy;exact hR h (Fr.refl _ _) cs i x hx q),Fr.refl _ _,KeptC.refl _ _⟩
 rcases s with ⟨rfl,rfl⟩ | ⟨b,cs,an,rfl,⟨hk,ha⟩,hg,hl,hi⟩
 ·have kc : KeptC h (newRow h new w []) [] := ⟨by simp,fun c hc _ => cel_congr (by simp [hc])⟩
  have fr : Fr ok h (newRow h new w []) := ⟨by simp,fun c hc _ => by simp [hc]⟩
  have hb' : ys.length * bytes ≤ 140737488355328 := by simpa using hb
  have hz' : ¬ ys = [] := fun e => hz (by rw [e];rfl)
  refine ⟨.slice (some ⟨h.size,0,none⟩) ys.length ys.length,newRow h new w [],?_,?_,fr,kc⟩
  ·simp [appendTo,hb',hz']
  ·exact .inr ⟨h.size,new,[],rfl,⟨hok,by simp⟩,by simp,by simpa using hn,fun i y hy => hx _ fr i y (by simpa using hy)⟩
 ·have hbs := lt_of_get hg
  have kc : KeptC h (newRow (h.setIfInBounds b (.cells cs w false an)) (cs ++ new) w (b :: an)) [] := by
   refine ⟨by simp,fun c hc _ => ?_⟩
   by_cases e : b = c
   ·subst e
    rw [cel_of hg]
    exact cel_of (es := w) (lv := false) (an := an) (by simp [hbs])
   ·exact cel_congr (by simp [hc,e])
  have fr : Fr ok h (newRow (h.setIfInBounds b (.cells cs w false an)) (cs ++ new) w (b :: an)) := ⟨by simp,fun c hc hn => by
   have e : ¬ b = c := fun e => hn (e ▸ hk)
   simp [hc,e]⟩
  have e2 : cs.take (xs.length * w) = cs := List.take_of_length_le (by omega)
  refine ⟨.slice (some ⟨h.size,0,none⟩) (xs.length + ys.length) (xs.length + ys.length),newRow (h.setIfInBounds b (.cells cs w false an)) (cs ++ new) w (b :: an),?_,?_,fr,kc⟩
  ·have hb' : (xs.length + ys.length) * bytes ≤ 140737488355328 := by simpa using hb
   have hz' : ¬ ys = [] := fun e => hz (by rw [e];rfl)
   have hnl : ¬ xs.length + ys.length ≤ xs.length := by omega
   simp [appendTo,hb',hg,hl,e2,hnl,hz']
  ·refine .inr ⟨h.size,cs ++ new,b :: an,by simp,⟨hok,?_⟩,by simp,by simp [hl,hn,Nat.add_mul],?_⟩
   ·intro a q
    rcases List.mem_cons.1 q with rfl | q
    ·exact ⟨hk,hbs⟩
    ·exact ⟨(ha a q).1,Nat.lt_trans (ha a q).2 hbs⟩
   ·intro i y hy
    by_cases hi' : i < xs.length
    ·rw [List.getElem?_append_left hi'] at hy
     rw [drop_take_append cs new xs.length w i hl hi']
     exact hR _ fr _ i _ hy (hi i y hy)
    ·rw [List.getElem?_append_right (by omega)] at hy
     have := take_in_end cs new xs.length w (i - xs.length) hl
     rw [show xs.length + (i - xs.length) = i by omega] at this
     rw [this]
     exact hx _ fr _ _ hy
theorem Bld.appC {bytes : Nat} (s : Bld (fun c => κ c = col) w R h v xs) {new : List Value} (x : α) (hw : new.length = w) (hb : (xs.length + 1) * bytes ≤ 2 ^ 47)
  (hR : ∀ h',Ch κ (· = col) h h' → ∀ cs (i : Nat) y,xs[i]? = some y → R h cs y → R2 h' cs y) (hx : ∀ h',Ch κ (· = col) h h' → R2 h' new x) :
  Ans (appendTo (newRow h new w []) w bytes v 1 new) fun v' h' => Bld (fun c => ext κ h.size col c = col) w R2 h' v' (xs ++ [x]) ∧ Ch κ (· = col) h h' ∧ KeptC h h' [] := by
 have k := rowKept h new w []
 have z : (newRow h new w []).size = h.size + 1 := by simp
 have go : ∀ h',Fr (fun c => ext κ h.size col c = col) (newRow h new w []) h' → Ch κ (· = col) h h' := fun h' f => ⟨by have := f.1;omega,fun c hc hn => (f.2 c (by omega) (by show ¬ ext κ h.size col c = col;rw [ext_lt hc];exact hn)).trans (k.get hc (by simp))⟩
 have s1 : Bld (fun c => ext κ h.size col c = col) w (fun _ cs y => ∃ i : Nat,xs[i]? = some y ∧ R h cs y) (newRow h new w []) v xs := s.to' (by omega) rfl (fun c hc q => by rw [ext_lt hc];exact q) (fun c x e _ => (k.get (lt_of_get e) (by simp)).trans e) (fun cs i x y hx hy q => by rw [hx] at hy;cases hy;exact ⟨i,hx,q⟩)
 refine (s1.appF (R2 := R2) (ys := [x]) (bytes := bytes) (by simpa using hw) (by simpa using hb) (by rw [z];exact ext_ge (by omega)) (fun h' f cs i y hy ⟨j,hj,q⟩ => hR h' (go h' f) cs j y hj q) (fun h' f i y hy => ?_)).mono ?_
 ·cases i with
  | succ i => simp at hy
  | zero =>
   simp at hy
   subst hy
   rw [Nat.zero_mul,List.drop_zero,List.take_of_length_le (by omega)]
   exact hx h' (go h' f)
 ·rintro v' h' ⟨b5,f5,c5⟩
  exact ⟨b5,go h' f5,k.c.trans c5⟩
theorem splice_elem (cs new : List Value) {w n i j o : Nat} (hl : cs.length = n * w) (hi : i < n) (ho : o + new.length ≤ w) (hj : j < n) :
  (((cs.take (i * w + o) ++ new ++ cs.drop (i * w + o + new.length)).drop (j * w)).take w) = if j = i then ((cs.drop (i * w)).take w).take o ++ new ++ ((cs.drop (i * w)).take w).drop (o + new.length) else (cs.drop (j * w)).take w := by
 have h1 : (i + 1) * w ≤ n * w := Nat.mul_le_mul_right _ hi
 have h2 : (j + 1) * w ≤ n * w := Nat.mul_le_mul_right _ hj
 rw [Nat.add_mul] at h1 h2
 have hle : i * w + o + new.length ≤ cs.length := by omega
 have hel : ((cs.drop (i * w)).take w).length = w := by rw [List.length_take,List.length_drop];omega
 apply List.ext_getElem?
 intro t
 by_cases ht : t < w
 ·rw [List.getElem?_take,if_pos ht,List.getElem?_drop,splice_get cs new _ _ hle]
  by_cases e : j = i
  ·subst e
   rw [if_pos rfl]
   have := splice_get ((cs.drop (j * w)).take w) new o t (by omega)
   rw [this]
   by_cases c1 : t < o
   ·rw [if_pos (by omega),if_pos c1,List.getElem?_take,if_pos ht,List.getElem?_drop]
   ·rw [if_neg (by omega),if_neg c1]
    by_cases c2 : t < o + new.length
    ·rw [if_pos (by omega),if_pos c2];congr 1;omega
    ·rw [if_neg (by omega),if_neg c2,List.getElem?_take,if_pos ht,List.getElem?_drop]
  ·rw [if_neg e,List.getElem?_take,if_pos ht,List.getElem?_drop]
   rcases Nat.lt_or_gt_of_ne e with c | c
   ·have : (j + 1) * w ≤ i * w := Nat.mul_le_mul_right _ c
    rw [Nat.add_mul] at this
    rw [if_pos (by omega)]
   ·have : (i + 1) * w ≤ j * w := Nat.mul_le_mul_right _ c
    rw [Nat.add_mul] at this
    rw [if_neg (by omega),if_neg (by omega)]
 ·rw [List.getElem?_eq_none (by rw [List.length_take];omega)]
  split
  ·rw [List.getElem?_eq_none (by simp [hel];omega)]
  ·rw [List.getElem?_eq_none (by rw [List.length_take];omega)]
theorem Bld.put (s : Bld ok w R h v xs) {i o : Nat} {x : α} (hx : xs[i]? = some x) {new : List Value} (ho : o + new.length ≤ w) (hone : new.all oneCell = true) :
  ∃ b cs an h',v = .slice (some ⟨b,0,none⟩) xs.length xs.length ∧ hget h b = some (.cells cs w true an) ∧ i * w + w ≤ cs.length ∧ ok b ∧ R h ((cs.drop (i * w)).take w) x ∧ wr h b (i * w + o) new = some h' ∧ h'.size = h.size ∧ Fr ok h h' ∧
   ∀ {R2 : H → List Value → α → Prop} (y : α),(∀ cs (j : Nat) z,xs[j]? = some z → j ≠ i → R h cs z → R2 h' cs z) → (R2 h' (((cs.drop (i * w)).take w).take o ++ new ++ ((cs.drop (i * w)).take w).drop (o + new.length)) y) → Bld ok w R2 h' v (xs.set i y) := by
 have hil := (List.getElem?_eq_some_iff.1 hx).1
 rcases s with ⟨_,e'⟩ | ⟨b,cs,an,e,⟨hk,ha⟩,hg,hl,hi⟩
 ·subst e';simp at hil
 ·have h1 : (i + 1) * w ≤ xs.length * w := Nat.mul_le_mul_right _ hil
  rw [Nat.add_mul] at h1
  have hbs := lt_of_get hg
  have hg' : h[b]? = some (.cells cs w true an) := hg
  have hle : i * w + o + new.length ≤ cs.length := by omega
  have hkz : (kill h an).size = h.size := kill_size _ _
  refine ⟨b,cs,an,(kill h an).setIfInBounds b (.cells (cs.take (i * w + o) ++ new ++ cs.drop (i * w + o + new.length)) w true []),e,hg,by omega,hk,hi i x hx,?_,by simp [hkz],⟨by simp [hkz],?_⟩,?_⟩
  ·unfold wr
   rw [hg']
   simp only [hle,hone,and_self,if_true]
  ·intro c hc hn
   have e1 : ¬ b = c := fun q => hn (q ▸ hk)
   have e2 : c ∉ an := fun q => hn (ha c q).1
   rw [set_other e1]
   show (kill h an)[c]? = h[c]?
   rw [kill_get,if_neg (fun q => e2 q.1)]
  ·intro R2 y hR hy
   have e3 : hget ((kill h an).setIfInBounds b (.cells (cs.take (i * w + o) ++ new ++ cs.drop (i * w + o + new.length)) w true [])) b = some (.cells (cs.take (i * w + o) ++ new ++ cs.drop (i * w + o + new.length)) w true []) := set_self rfl (by rw [hkz];exact hbs)
   refine .inr ⟨b,_,[],by rw [List.length_set];exact e,⟨hk,by simp⟩,e3,?_,?_⟩
   ·rw [List.length_set,← hl]
    simp
    omega
   ·intro j z hz
    have hjl := (List.getElem?_eq_some_iff.1 hz).1
    rw [List.length_set] at hjl
    rw [splice_elem cs new hl hil ho hjl]
    by_cases ej : j = i
    ·subst ej
     rw [List.getElem?_set_self hil] at hz
     cases hz
     rw [if_pos rfl]
     exact hy
    ·rw [List.getElem?_set_ne (fun q => ej q.symm)] at hz
     rw [if_neg ej]
     exact hR _ j z hz ej (hi j z hz)
end
end Go.Ev
