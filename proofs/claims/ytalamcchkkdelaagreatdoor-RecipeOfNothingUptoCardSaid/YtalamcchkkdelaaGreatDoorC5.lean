/- Texts of the proofs over heraldlaw20, put together by a program (merge20.py): Ev8 Ev9 Ev10 Ev10b Ev11. -/
import Derived.Test.YtalamcchkkdelaaGreatDoorC4
import Derived.Deep.Upon
import Derived.Laws.IdiomStrings
set_option linter.unusedVariables false
set_option linter.unusedSimpArgs false
namespace Go.Ev
variable {P : Program} {ρ : Ren} {h : H} {a : Act} {w : World} {s : Env} {n : Nat}
theorem range_mod (z : List Value) (m : Nat) : ((List.range (m * z.length)).map fun i => z.getD (i % z.length) undef) = (List.replicate m z).flatten := by
 induction m with
 | zero => simp
 | succ m ih =>
  rw [List.replicate_succ',List.flatten_append,← ih,Nat.succ_mul,List.range_add,List.map_append]
  congr 1
  simp only [List.flatten_cons,List.flatten_nil,List.append_nil,List.map_map]
  apply List.ext_getElem?
  intro j
  by_cases hj : j < z.length
  ·simp [hj,Nat.mul_add_mod_self_right,Nat.mod_eq_of_lt hj,List.getD_eq_getElem?_getD]
  ·simp [hj]
theorem madeCells_list {z : Array Value} (hz : 0 < z.size) (m : Nat) : (madeCells z (m * z.size)).toList = (List.replicate m z.toList).flatten := by
 rw [← range_mod z.toList m]
 simp only [madeCells,Array.toList_map,Array.toList_range,Array.length_toList]
 apply List.map_congr_left
 intro i _
 have hlt : i % z.size < z.size := Nat.mod_lt _ hz
 rw [getElem!_pos z _ hlt,List.getD_eq_getElem?_getD,List.getElem?_eq_getElem (by simpa using hlt)]
 simp
theorem flat_konst {z : List Value} (hz : z.all isKonst = true) (m : Nat) : ((List.replicate m z).flatten).all isKonst = true := by
 rw [List.all_eq_true] at hz ⊢
 intro v hv
 obtain ⟨l,hl,hv⟩ := List.mem_flatten.1 hv
 have := List.eq_of_mem_replicate hl
 exact hz v (this ▸ hv)
theorem good_makeSlice (o : Oper) (t el : TypeId) (l c : Operand) (ho : o.op = .makeSlice t l c) (ht : P.underlying t = some (.slice el)) {z : List Value} (hz : zeroC P el = some z) (hz0 : 0 < z.length) {by' : Nat} (hb : (P.info? el).map (·.bytes) = some by') (r : Rel ρ h w) (he : EnvRel ρ n s a.tmps)
  {i j : Int} (el' : aeval s l = .int .i64 i) (ec : aeval s c = .int .i64 j) (h0 : 0 ≤ i) (h1 : i ≤ j) (h2 : j ≤ 9223372036854775807) (h3 : by' * j.toNat ≤ 2 ^ 47) :
  Good P o ρ h a w (.slice (some ⟨h.size,0,none⟩) i.toNat j.toNat) (newRow h (List.replicate j.toNat z).flatten z.length []) := by
 have x1 := aeval_sound he l
 rw [el'] at x1
 have e1 := x1.int_inv
 have x2 := aeval_sound he c
 rw [ec] at x2
 have e2 := x2.int_inv
 obtain ⟨zv,g1,g2,g3,g4⟩ := zeroC_run hz
 cases hi : P.info? el with
 | none => rw [hi] at hb;cases hb
 | some it =>
  rw [hi] at hb;simp at hb
  have hzz : it.zero = some zv := by
   have := g1 w
   unfold zeroC at hz
   rw [hi] at hz
   cases hzz : it.zero with
   | none => simp [hzz] at hz
   | some q => simp [zeroValue,typeInfo,hi,hzz] at this;subst this;rfl
  have hsz : zv.cells.size = z.length := by rw [← g2];simp
  have his : it.size = z.length := by simpa [szOf,hi] using g4
  have hbytes : (it.bytes : Int) * j ≤ 281474976710656 := by
   rw [hb]
   have : ((by' * j.toNat : Nat) : Int) ≤ 2 ^ 47 := by exact_mod_cast h3
   rw [Int.natCast_mul,Int.toNat_of_nonneg (by omega)] at this
   omega
  have hrun := run_make w t el it zv ht hi hzz .i64 .i64 i j h0 h1 hbytes h2
  have hml : (madeCells zv.cells (j.toNat * it.size)).toList = (List.replicate j.toNat z).flatten := by
   rw [his,← hsz,madeCells_list (by omega),g2]
  have hk := flat_konst g3 j.toNat
  obtain ⟨r1,r2⟩ := row_rel r (List.replicate j.toNat z).flatten (madeCells zv.cells (j.toNat * it.size)) el z.length true [] (by simp) 0
   (by rw [hml,List.take_length];exact VRs.konst hk) (by rw [← Array.length_toList,hml];simp) _ rfl
  refine ⟨.slice (some ⟨w.heap.size,0,none⟩) i.toNat j.toNat,_,w.alloc (.cells (madeCells zv.cells (j.toNat * it.size)) el),.inl ?_,?_,r1,r2⟩
  ·simp [execOp,ho,e1,e2,hrun]
  ·exact .slice (i := ⟨w.heap.size,0,z.length,0⟩) (by simp [Ren.put]) (by omega) (Nat.le_refl _) (by simp) (.inl rfl)
theorem VRs.bytes (l : List UInt8) : VRs ρ (l.map fun b => Value.int .u8 b.toNat) (l.map fun b => Value.int .u8 b.toNat) := by
 induction l with
 | nil => exact .nil
 | cons b l ih => rw [List.map_cons];exact .cons (.int _ _) ih
theorem bytesOf_length (t : ByteArray) : (bytesOf t).length = t.size := by
 unfold bytesOf
 rw [List.length_map,Array.length_toList]
 rfl
theorem grownCap_ge (w : World) (need old : Nat) (e : TypeId) : need ≤ grownCap w need old e := by
 show need ≤ need + _
 omega
theorem good_toBytes (o : Oper) (src dst el : TypeId) (x : Operand) (ho : o.op = .convert src dst x) (hs : P.underlying src = some .string) (hd : P.underlying dst = some (.slice el)) (hel : P.underlying el = some (.int .u8)) (r : Rel ρ h w) (he : EnvRel ρ n s a.tmps)
  {t : ByteArray} (e : aeval s x = .string t) : Good P o ρ h a w (.slice (some ⟨h.size,0,none⟩) t.size t.size) (newRow h (bytesOf t) 1 []) := by
 have x1 := aeval_sound he x
 rw [e] at x1
 have e1 := x1.string_inv
 have hrun := run_bytes_of_string (P := P) w src dst el t hs hd hel
 have hge := grownCap_ge w t.size 0 el
 generalize grownCap w t.size 0 el = cap at *
 have hrowsz : (bytesRow t cap).size = cap := by
  simp [bytesRow]
  have : t.data.size = t.size := rfl
  omega
 have hnew := heap_alloc_new w.drew (.cells (bytesRow t cap) el ((bytesRow t cap).size,(bytesRow t cap).size + 1))
 have hrd := r.drew
 obtain ⟨r1,r2⟩ := push_rel hrd (.cells (bytesRow t cap) el ((bytesRow t cap).size,(bytesRow t cap).size + 1)) (.cells (bytesOf t) 1 true []) ⟨w.heap.size,0,1,cap - t.size⟩ rfl
  ⟨rfl,fun j hj => by
   rw [bytesOf_length] at hj
   have hjl : j < cap := by simp at hj;omega
   have hjs : j < (bytesRow t cap).size := by omega
   have hnew' : (w.drew.alloc (.cells (bytesRow t cap) el ((bytesRow t cap).size,(bytesRow t cap).size + 1))).heap[w.heap.size]? = _ := hnew
   simp only [World.cell?,World.frozen?,hnew']
   simp [hjs];omega,fun j v hj => by
   have hnew' : (w.drew.alloc (.cells (bytesRow t cap) el ((bytesRow t cap).size,(bytesRow t cap).size + 1))).heap[w.heap.size]? = _ := hnew
   obtain ⟨v',q1,q2⟩ := (VRs.bytes (ρ := ρ.put h.size ⟨w.heap.size,0,1,cap - t.size⟩) t.data.toList).get hj
   refine ⟨v',?_,q2⟩
   simp only [World.cell?,hnew']
   have hjl : j < t.data.size := by
    have := (List.getElem?_eq_some_iff.1 hj).1
    simpa [bytesOf] using this
   simp only [bytesRow,Nat.add_zero,Option.isSome_none,Bool.false_eq_true,if_false]
   rw [Array.getElem?_append_left (by simpa using hjl)]
   simpa using q1⟩ (by simp [Blk.ancs])
 refine ⟨.slice (some ⟨w.heap.size,0,none⟩) t.size cap,_,_,.inl (by simp [execOp,ho,e1,hrun]),?_,r1,?_⟩
 ·exact .slice (i := ⟨w.heap.size,0,1,cap - t.size⟩) (by simp [Ren.put]) (Nat.le_refl _) hge (by simp) (.inl rfl)
 ·exact ⟨r2.le,r2.hsz,r2.wsz,r2.af,r2.cf,r2.nw,r2.dull,r2.io⟩
theorem strOf_sound : ∀ {l l' : List Value} {bs : List UInt8},strOf l = some bs → VRs ρ l l' → ∃ ns : List Int,l' = ns.map (Value.int .u8) ∧ bs = ns.map fun m => UInt8.ofNat m.toNat
 | [],_,bs,e,.nil => by simp [strOf] at e;subst e;exact ⟨[],rfl,rfl⟩
 | v :: l,_,bs,e,.cons hv t => by
  cases v with
  | int k m =>
   have := hv.int_inv
   cases k <;> simp [strOf] at e
   obtain ⟨b2,h2,rfl⟩ := e
   obtain ⟨ns,rfl,rfl⟩ := strOf_sound h2 t
   exact ⟨m :: ns,by simp [this],by simp⟩
  | _ => simp [strOf] at e
theorem foldl_push_ints : ∀ (ns : List Int) (r : ByteArray),ns.foldl (fun r n => r.push (UInt8.ofNat n.toNat)) r = ⟨r.data ++ (ns.map fun m => UInt8.ofNat m.toNat).toArray⟩
 | [],r => by simp
 | b :: l,r => by
  simp only [List.foldl_cons,List.map_cons]
  rw [foldl_push_ints l]
  simp [ByteArray.push]
theorem good_toString (o : Oper) (src dst el : TypeId) (x : Operand) (ho : o.op = .convert src dst x) (hs : P.underlying src = some (.slice el)) (hel : P.underlying el = some (.int .u8)) (hd : P.underlying dst = some .string) (r : Rel ρ h w) (he : EnvRel ρ n s a.tmps)
  {v : Value} {h' : H} (e : evOp (.conv .toString x) s h = some (v,h')) : Good P o ρ h a w v h' := by
 have x1 := aeval_sound he x
 simp only [evOp] at e
 split at e <;> simp at e
 ·rename_i hc _ ;cases hc
 ·rename_i hc _;cases hc
 ·rename_i hc _;cases hc
 ·rename_i hx
  rw [hx] at x1
  obtain ⟨rfl,rfl⟩ := e
  obtain ⟨_,_,e1⟩ := x1.snil_inv
  exact .same r (.string _) (by simp [execOp,ho,e1,run_convert_bytes_string w src dst el none 0 0 hs hel hd,Conv.bytesToString])
 ·rename_i b q m c _ hx
  rw [hx] at x1
  obtain ⟨i,o',c',hi,e1,g1,g2,g3,g4⟩ := x1.slice_inv
  by_cases hm : m = 0
  ·subst hm
   simp at e;obtain ⟨rfl,rfl⟩ := e
   have hb := run_bytesToString (P := P) w ⟨i.blk,o',none⟩ 0 c' [] (by simp [loadCells,loadCellsFrom])
   exact .same r (.string _) (by simp [execOp,ho,e1,run_convert_bytes_string w src dst el _ 0 c' hs hel hd,hb])
  ·rw [if_neg hm] at e
   have ho' : o' = q + i.sh := by rcases g4 with g4 | g4 <;> omega
   subst ho'
   cases hl : rd h b q m with
   | none => rw [hl] at e;simp at e
   | some l =>
    rw [hl] at e
    cases hst : strOf l with
    | none => simp [hst] at e
    | some bs =>
     simp [hst] at e
     obtain ⟨rfl,rfl⟩ := e
     obtain ⟨f1,l',f2,f3⟩ := rd_rel r hi hl
     obtain ⟨ns,rfl,rfl⟩ := strOf_sound hst f2
     have hlen : (ns.map (Value.int .u8)).length = m := by rw [← f2.length];exact f1
     have hld := run_loadCells_list (P := P) w ⟨i.blk,q + i.sh,none⟩ (ns.map (Value.int .u8)) (fun j v hv => by rw [Addr.add_mid];exact f3 j v hv)
     rw [hlen] at hld
     have hb := run_bytesToString (P := P) w ⟨i.blk,q + i.sh,none⟩ m c' ns hld
     rw [foldl_push_ints] at hb
     have he0 : ByteArray.empty.data = #[] := rfl
     rw [he0] at hb
     refine .same r (.string _) ?_
     simp [execOp,ho,e1,run_convert_bytes_string w src dst el _ m c' hs hel hd,hb]
end Go.Ev
namespace Go.Ev
variable {P : Program} {ρ : Ren} {h : H} {a : Act} {w : World} {s : Env} {n : Nat}
theorem VRs.bytesOf (t : ByteArray) : VRs ρ (bytesOf t) (byteCells t) := VRs.bytes t.data.toList
def srcKind (x : Value) (d : TypeDesc) : Prop :=
 match x with
 | .string _ => d = .string
 | _ => ∃ el,d = .slice el
def isStrD : TypeDesc → Option Bool
 | .string => some true
 | .slice _ => some false
 | _ => none
theorem srcKind_of {x : Value} {d : TypeDesc} {b : Bool} (hd : isStrD d = some b) (hx : isText x = b) : srcKind x d := by
 cases d <;> simp [isStrD] at hd <;> subst hd <;> cases x <;> simp [isText] at hx <;> simp [srcKind]
theorem srcOf_cases {es : Nat} {x : Value} {m : Nat} {new : List Value} (e : srcOf h es x = some (m,new)) :
  (x = .slice none 0 0 ∧ m = 0 ∧ new = []) ∨ (∃ b q k c,x = .slice (some ⟨b,q,none⟩) k c ∧ ((k = 0 ∧ m = 0 ∧ new = []) ∨ (k ≠ 0 ∧ m = k ∧ rd h b q (k * es) = some new))) ∨ (∃ t,x = .string t ∧ es = 1 ∧ m = t.size ∧ new = Ev.bytesOf t) ∨ (∃ b q z,x = .slice (some ⟨b,q,some z⟩) 0 0 ∧ m = 0 ∧ new = []) := by
 unfold srcOf at e
 split at e
 ·simp at e;exact .inl ⟨rfl,e.1.symm,e.2⟩
 ·rename_i b q k c
  refine .inr (.inl ⟨b,q,k,c,rfl,?_⟩)
  split at e
  ·simp at e;exact .inl ⟨by assumption,e.1.symm,e.2⟩
  ·simp at e;exact .inr ⟨by assumption,e.2.symm,e.1⟩
 ·rename_i b q z
  simp at e;exact .inr (.inr (.inr ⟨b,q,z,rfl,e.1.symm,e.2⟩))
 ·rename_i t
  split at e
  ·simp at e;exact .inr (.inr (.inl ⟨t,rfl,by assumption,e.1.symm,e.2.symm⟩))
  ·cases e
 ·cases e
theorem src_sound (r : Rel ρ h w) {es : Nat} {x x' : Value} (hx : VR ρ x x') {m : Nat} {new : List Value} (e : srcOf h es x = some (m,new)) (h1 : new.all oneCell = true) {tx : TypeId} {d : TypeDesc} (htx : P.underlying tx = some d)
  (hk : srcKind x d) : ∃ new',VRs ρ new new' ∧ Src P es tx x' m new' w ∧ new.length = m * es := by
 rcases srcOf_cases e with ⟨rfl,rfl,rfl⟩ | ⟨b,q,k,c,rfl,hc⟩ | ⟨t,rfl,rfl,rfl,rfl⟩ | ⟨b,q,z,rfl,rfl,rfl⟩
 ·obtain ⟨el,rfl⟩ := hk
  obtain ⟨_,_,e1⟩ := hx.snil_inv
  subst e1
  exact ⟨[],.nil,Src.ofNil w htx 0,by simp⟩
 ·obtain ⟨el,rfl⟩ := hk
  obtain ⟨i,o',c',hi,e1,g1,g2,g3,g4⟩ := hx.slice_inv
  subst e1
  rcases hc with ⟨rfl,rfl,rfl⟩ | ⟨hk0,rfl,hl⟩
  ·exact ⟨[],.nil,Src.ofSlice w htx _ 0 c' [] (by simp) (by simp) (by simp),by simp⟩
  ·have ho' : o' = q + i.sh := by rcases g4 with g4 | g4 <;> omega
   subst ho'
   obtain ⟨f1,l',f2,f3⟩ := rd_rel r hi hl
   exact ⟨l',f2,Src.ofSlice w htx _ m c' l' (by rw [← f2.length];exact f1) (fun j v hv => by rw [Addr.add_mid];exact f3 j v hv) (f2.one h1),f1⟩
 ·subst hk
  have e1 := hx.string_inv
  subst e1
  exact ⟨_,VRs.bytesOf _,Src.ofString w htx _,by rw [bytesOf_length,Nat.mul_one]⟩
 ·obtain ⟨el,rfl⟩ := hk
  cases hx with
  | dang ad => exact ⟨[],.nil,Src.ofSlice w htx _ 0 0 [] (by simp) (by simp) (by simp),by simp⟩
theorem firstCells_nil (w : World) (sz : Nat) (c : Nat) : (Builtin.firstCells sz 0 (.slice none 0 c)).run P w = .ok #[] w := by simp [Builtin.firstCells]
theorem put_head {ρ : Ren} {i : Info} : (ρ.put h.size i) h.size = some i := by simp [Ren.put]
set_option maxHeartbeats 1000000 in
theorem good_append (o : Oper) (t tx ty el : TypeId) (d x : Operand) (ho : o.op = .call { callee := .builtin .append,args := #[d,x],argTypes := #[t,tx] }) (ht : P.underlying t = some (.slice el)) {z : List Value} (hz : zeroC P el = some z)
  {by' : Nat} (hb : (P.info? el).map (·.bytes) = some by') (hb0 : 0 < by') {dd : TypeDesc} (htx : P.underlying tx = some dd) (r : Rel ρ h w) (he : EnvRel ρ n s a.tmps)
  (hk : srcKind (aeval s x) dd)
  {m : Nat} {new : List Value} (esrc : srcOf h z.length (aeval s x) = some (m,new)) (h1 : new.all oneCell = true) {v : Value} {h' : H} (e : appendTo h z.length by' (aeval s d) m new = some (v,h')) : Good P o ρ h a w v h' := by
 have _ := ty
 have xd := aeval_sound he d
 obtain ⟨new',f1,f2,f3⟩ := src_sound r (aeval_sound he x) esrc h1 htx hk
 obtain ⟨zv,g1,g2,g3,g4⟩ := zeroC_run hz
 cases hi : P.info? el with
 | none => rw [hi] at hb;cases hb
 | some it =>
  rw [hi] at hb;simp at hb
  have hzz : it.zero = some zv := by
   have := g1 w
   unfold zeroC at hz
   rw [hi] at hz
   cases hzz : it.zero with
   | none => simp [hzz] at hz
   | some q => simp [zeroValue,typeInfo,hi,hzz] at this;subst this;rfl
  have his : it.size = z.length := by simpa [szOf,hi] using g4
  have hnl := f1.length
  rw [← his] at f2
  unfold appendTo at e
  split at e
  ·
   rename_i hd
   rw [hd] at xd
   obtain ⟨_,_,e1⟩ := xd.snil_inv
   split at e
   ·rename_i hm;subst hm
    simp at e;obtain ⟨rfl,rfl⟩ := e
    have hn0 : new' = [] := List.eq_nil_of_length_eq_zero (by omega)
    subst hn0
    refine .same (v' := .slice none 0 0) r (by rw [hd];exact .snil) ?_
    simp only [execOp,ho,resolve,invoke,builtin,Sem.run_bind,Sem.run_pure,Result.andThen_ok]
    have := run_append_nothing (P := P) w t tx o.type el it ht hi none 0 0 (Nat.le_refl _) (a.eval x) f2
    simp [e1,this]
   ·rename_i hm
    split at e
    ·rename_i hbnd
     simp at e;obtain ⟨rfl,rfl⟩ := e
     have hbnd' : m ≤ 2 ^ 47 := Nat.le_trans (Nat.le_mul_of_pos_right m hb0) hbnd
     have hfit := growslice_fits (need := m) (old := 0) (bytes := it.bytes) (by omega) (by rw [hb];exact hbnd)
     have hrun := run_append_grow_src (P := P) w t tx o.type el it zv ht hi hzz none 0 0 [] (firstCells_nil _ _ _) (a.eval x) m new' f2 (by omega) (by omega) (by simpa using hfit)
     have hge := grownCap_ge w (0 + m) 0 el
     generalize grownCap w (0 + m) 0 el = cap at *
     have hzc : (Builtin.zeroCells zv.cells (cap - (0 + m))).size = (cap - (0 + m)) * z.length := by
      simp [Builtin.zeroCells,← g2]
     obtain ⟨r1,r2⟩ := row_rel r.drew new (([] ++ new').toArray ++ Builtin.zeroCells zv.cells (cap - (0 + m))) el z.length true [] (by simp) ((cap - m) * z.length)
      (by rw [hnl];simpa using f1) (by simp only [Array.size_append,hzc];simp [hnl]) _ rfl
     refine ⟨.slice (some ⟨w.heap.size,0,none⟩) (0 + m) cap,_,_,.inl ?_,?_,r1,⟨r2.le,r2.hsz,r2.wsz,r2.af,r2.cf,r2.nw,r2.dull,r2.io⟩⟩
     ·simp only [execOp,ho,resolve,invoke,builtin,Sem.run_bind,Sem.run_pure,Result.andThen_ok]
      simp [e1,hrun]
     ·rw [Nat.zero_add]
      exact .slice (i := ⟨w.heap.size,0,z.length,(cap - m) * z.length⟩) put_head (Nat.le_refl _) (by omega) (Nat.le_refl _) (.inl rfl)
    ·cases e
  ·
   rename_i b q len cap0 hd
   rw [hd] at xd
   obtain ⟨i,o',c',hib,e1,q1,q2,q3,q4⟩ := xd.slice_inv
   split at e
   ·rename_i hm;subst hm
    simp at e;obtain ⟨rfl,rfl⟩ := e
    have hn0 : new' = [] := List.eq_nil_of_length_eq_zero (by omega)
    subst hn0
    have hrun := run_append_nothing (P := P) w t tx o.type el it ht hi (some ⟨i.blk,o',none⟩) len c' (by omega) (a.eval x) f2
    refine .same (v' := .slice (some ⟨i.blk,o',none⟩) len c') r (by rw [hd];exact .slice hib q1 q2 q3 q4) ?_
    simp only [execOp,ho,resolve,invoke,builtin,Sem.run_bind,Sem.run_pure,Result.andThen_ok]
    simp [e1,hrun]
   ·rename_i hm
    split at e
    ·
     rename_i hroom
     have ho' : o' = q + i.sh := by rcases q4 with q4 | q4 <;> omega
     subst ho'
     cases hw : wr h b (q + len * z.length) new with
     | none => rw [hw] at e;simp at e
     | some h2 =>
      rw [hw] at e;simp at e;obtain ⟨rfl,rfl⟩ := e
      obtain ⟨p1,p2,p3,p4,p5⟩ := wr_rel r hib hw f1
      have hrun := run_append_room_src (P := P) w t tx o.type el it ht hi i.blk (q + i.sh) len c' (a.eval x) m new' f2 (by omega)
       (fun j hj => by rw [his];have := p1 j hj;rwa [show q + len * z.length + i.sh + j = q + i.sh + len * z.length + j by omega] at this)
       (fun j hj => by rw [his];have := p2 j hj;rwa [show q + len * z.length + i.sh + j = q + i.sh + len * z.length + j by omega] at this)
      rw [his,show q + i.sh + len * z.length = q + len * z.length + i.sh by omega] at hrun
      refine ⟨.slice (some ⟨i.blk,q + i.sh,none⟩) (len + m) c',ρ,_,.inl ?_,?_,p4,p5⟩
      ·simp only [execOp,ho,resolve,invoke,builtin,Sem.run_bind,Sem.run_pure,Result.andThen_ok]
       simp [e1,hrun]
      ·exact .slice hib hroom q2 q3 (.inl rfl)
    ·rename_i hroom
     split at e
     ·rename_i hbnd
      have hbnd' : len + m ≤ 2 ^ 47 := Nat.le_trans (Nat.le_mul_of_pos_right _ hb0) hbnd
      split at e
      ·rename_i cs es' anc hx
       split at e
       ·rename_i hcond
        obtain ⟨rfl,hcap⟩ := hcond
        obtain ⟨hes,hthere,hc⟩ := r.blk b i _ hib hx
        have hlc : len * z.length ≤ cap0 * z.length := Nat.mul_le_mul_right _ q1
        have hol : q + len * z.length ≤ cs.length := by omega
        have hnew : new.length = m * z.length := f3
        have holdlen : ((cs.drop q).take (len * z.length)).length = len * z.length := by simp;omega
        by_cases hfits : len + m ≤ c'
        ·
         have ho' : o' = q + i.sh := by rcases q4 with q4 | q4 <;> omega
         subst ho'
         have hroom2 : q + c' * z.length ≤ cs.length + i.room := by
          have : c' * z.length = cap0 * z.length + (c' - cap0) * z.length := by rw [← Nat.add_mul];congr 1;omega
          rw [hes] at q3
          omega
         have hneed : (len + m) * z.length = len * z.length + new.length := by rw [hnew,Nat.add_mul]
         have hle2 : (len + m) * z.length ≤ c' * z.length := Nat.mul_le_mul_right _ hfits
         have hrm : q + len * z.length + new.length + (c' - (len + m)) * z.length ≤ cs.length + i.room := by
          have : c' * z.length = (len + m) * z.length + (c' - (len + m)) * z.length := by rw [← Nat.add_mul];congr 1;omega
          omega
         have hrun : ∀ w',w.setCells i.blk (q + i.sh + len * z.length) new' = w' → (∀ j,j < new'.length → (w.cell? ⟨i.blk,q + i.sh + len * z.length + j,none⟩).isSome = true) → (∀ j,j < new'.length → w.frozen? ⟨i.blk,q + i.sh + len * z.length + j,none⟩ = false) →
           (execOp a.eval o).run P w = .ok (.value (.slice (some ⟨i.blk,q + i.sh,none⟩) (len + m) c')) w' := by
          intro w' hw' t1 t2
          have hrun := run_append_room_src (P := P) w t tx o.type el it ht hi i.blk (q + i.sh) len c' (a.eval x) m new' f2 hfits (by rw [his];exact t1) (by rw [his];exact t2)
          rw [his,hw'] at hrun
          simp only [execOp,ho,resolve,invoke,builtin,Sem.run_bind,Sem.run_pure,Result.andThen_ok]
          simp [e1,hrun]
         by_cases hend : q + len * z.length = cs.length
         ·rw [if_pos hend] at e
          simp at e;obtain ⟨rfl,rfl⟩ := e
          obtain ⟨t1,t2,t3,t4,t5⟩ := grow_rel (h1 := h.setIfInBounds b (.cells cs z.length false anc)) (anc' := b :: anc) r hib hx hol f1 h1 (by omega) (by simp)
           (by
             intro c y hy
             by_cases hcb : c = b
             ·subst hcb
              rw [Array.getElem?_setIfInBounds_self_of_lt (r.dom _ _ hib)] at hy
              cases hy;exact .inr (.inr ⟨rfl,rfl,hend⟩)
             ·rw [Array.getElem?_setIfInBounds_ne (Ne.symm hcb)] at hy
              exact .inr (.inl ⟨hcb,hy⟩))
           (by
             intro c hc0
             have hcb : c ≠ b := fun e0 => by subst e0;rw [hib] at hc0;cases hc0
             rw [Array.getElem?_setIfInBounds_ne (Ne.symm hcb)])
           (by intro y hy;simpa using hy) (by intro c y _ _ hcc _;exact ⟨by simpa using hcc,hend⟩) ((c' - (len + m)) * z.length) hrm _ rfl
          refine ⟨_,_,_,.inl (hrun _ rfl t1 t2),?_,t4,t5⟩
          exact .slice (i := ⟨i.blk,i.sh + q,z.length,(c' - (len + m)) * z.length⟩) put_head (Nat.le_refl _) hfits (Nat.le_refl _) (.inl (by simp;omega))
         ·rw [if_neg hend] at e
          simp at e;obtain ⟨rfl,rfl⟩ := e
          obtain ⟨t1,t2,t3,t4,t5⟩ := grow_rel (h1 := kill h (b :: anc)) (anc' := []) r hib hx hol f1 h1 (by omega) (kill_size _ _)
           (by
             intro c y hy
             rw [kill_get] at hy
             split at hy
             ·cases hy;exact .inl rfl
             ·rename_i hn
              have hcb : c ≠ b := fun e0 => hn ⟨by simp [e0],by rw [e0];exact r.dom _ _ hib⟩
              exact .inr (.inl ⟨hcb,hy⟩))
           (by
             intro c hc0
             rw [kill_get,if_neg]
             rintro ⟨hm1,_⟩
             rcases List.mem_cons.1 hm1 with rfl | hm2
             ·rw [hib] at hc0;cases hc0
             ·exact r.anc b i _ c hib hx (by simpa [Blk.ancs] using hm2) hc0)
           (by simp) (by
             intro c y hy hyd hcc hcl
             rw [kill_get,if_pos ⟨by simpa using hcc,hcl⟩] at hy
             cases hy;simp [Blk.isDead] at hyd) ((c' - (len + m)) * z.length) hrm _ rfl
          refine ⟨_,_,_,.inl (hrun _ rfl t1 t2),?_,t4,t5⟩
          exact .slice (i := ⟨i.blk,i.sh + q,z.length,(c' - (len + m)) * z.length⟩) put_head (Nat.le_refl _) hfits (Nat.le_refl _) (.inl (by simp;omega))
        ·
         have hold : ∃ old',VRs ρ ((cs.drop q).take (len * z.length)) old' ∧ (Builtin.firstCells it.size len (.slice (some ⟨i.blk,o',none⟩) len c')).run P w.drew = .ok old'.toArray w.drew := by
          by_cases hl0 : len = 0
          ·subst hl0
           exact ⟨[],by simp;exact .nil,by simp [Builtin.firstCells,loadCells,loadCellsFrom]⟩
          ·have ho' : o' = q + i.sh := by rcases q4 with q4 | q4 <;> omega
           subst ho'
           have hrd : rd h b q (len * z.length) = some ((cs.drop q).take (len * z.length)) := by
            unfold rd;rw [hx];simp [hol]
           obtain ⟨y1,l',y2,y3⟩ := rd_rel r hib hrd
           refine ⟨l',y2,?_⟩
           exact run_firstCells_some w.drew it.size len ⟨i.blk,q + i.sh,none⟩ len c' l' (by rw [← y2.length,y1,his]) (fun j v hv => by rw [Addr.add_mid];exact y3 j v hv)
         obtain ⟨old',y1,y2⟩ := hold
         have hol' := y1.length
         rw [holdlen] at hol'
         have hfit := growslice_fits (need := len + m) (old := c') (bytes := it.bytes) (by omega) (by rw [hb];exact hbnd)
         have hrun := run_append_grow_src (P := P) w t tx o.type el it zv ht hi hzz (some ⟨i.blk,o',none⟩) len c' old' y2 (a.eval x) m new' f2 (by omega) (by omega) (by simpa using hfit)
         have hge := grownCap_ge w (len + m) c' el
         generalize grownCap w (len + m) c' el = cap at *
         have hzc : (Builtin.zeroCells zv.cells (cap - (len + m))).size = (cap - (len + m)) * z.length := by
          simp [Builtin.zeroCells,← g2]
         have hrunx : (execOp a.eval o).run P w = .ok (.value (.slice (some ⟨w.heap.size,0,none⟩) (len + m) cap)) (w.drew.alloc (.cells ((old' ++ new').toArray ++ Builtin.zeroCells zv.cells (cap - (len + m))) el)) := by
          simp only [execOp,ho,resolve,invoke,builtin,Sem.run_bind,Sem.run_pure,Result.andThen_ok]
          simp [e1,hrun]
         have hvs : VRs ρ ((cs.drop q).take (len * z.length) ++ new) (((old' ++ new').toArray ++ Builtin.zeroCells zv.cells (cap - (len + m))).toList.take ((cs.drop q).take (len * z.length) ++ new).length) := by
          have hll : ((cs.drop q).take (len * z.length) ++ new).length = (old' ++ new').length := (y1.append f1).length
          rw [hll]
          simp only [Array.toList_append,List.take_left']
          simpa using y1.append f1
         have hsz2 : ((cs.drop q).take (len * z.length) ++ new).length + (cap - (len + m)) * z.length ≤ ((old' ++ new').toArray ++ Builtin.zeroCells zv.cells (cap - (len + m))).size := by
          have hll : ((cs.drop q).take (len * z.length) ++ new).length = (old' ++ new').length := (y1.append f1).length
          rw [hll,Array.size_append,hzc];simp
         by_cases hend : q + len * z.length = cs.length
         ·rw [if_pos hend] at e
          simp at e;obtain ⟨rfl,rfl⟩ := e
          obtain ⟨s1,s2⟩ := seal_rel r hib hx
          have hs1 : (h.setIfInBounds b (.cells cs z.length false anc)).size = h.size := by simp
          obtain ⟨r1,r2⟩ := row_rel s1.drew _ _ el z.length true (b :: anc)
           (by
             intro y hy
             rcases List.mem_cons.1 hy with rfl | hy
             ·rw [hib];simp
             ·exact r.anc b i _ y hib hx (by simpa [Blk.ancs] using hy)) _ hvs hsz2 _ rfl
          refine ⟨_,_,_,.inl hrunx,?_,r1,Ext.trans r s2 ⟨r2.le,r2.hsz,r2.wsz,r2.af,r2.cf,r2.nw,r2.dull,r2.io⟩⟩
          exact .slice (i := ⟨w.heap.size,0,z.length,(cap - (len + m)) * z.length⟩) (by rw [← hs1];exact put_head) (Nat.le_refl _) (by omega) (Nat.le_refl _) (.inl rfl)
         ·rw [if_neg hend] at e
          simp at e;obtain ⟨rfl,rfl⟩ := e
          obtain ⟨s1,s2⟩ := kill_rel r (b :: anc) (by
            intro y hy
            rcases List.mem_cons.1 hy with rfl | hy
            ·rw [hib];simp
            ·exact r.anc b i _ y hib hx (by simpa [Blk.ancs] using hy))
          have hs1 : (kill h (b :: anc)).size = h.size := kill_size _ _
          obtain ⟨r1,r2⟩ := row_rel s1.drew _ _ el z.length true [] (by simp) _ hvs hsz2 _ rfl
          refine ⟨_,_,_,.inl hrunx,?_,r1,Ext.trans r s2 ⟨r2.le,r2.hsz,r2.wsz,r2.af,r2.cf,r2.nw,r2.dull,r2.io⟩⟩
          exact .slice (i := ⟨w.heap.size,0,z.length,(cap - (len + m)) * z.length⟩) (by rw [← hs1];exact put_head) (Nat.le_refl _) (by omega) (Nat.le_refl _) (.inl rfl)
       ·cases e
      ·cases e
     ·cases e
  ·cases e
end Go.Ev
namespace Go.Ev
variable {P : Program} {ρ : Ren} {h : H} {a : Act} {w : World} {s : Env} {n : Nat}
theorem good_copy (o : Oper) (t tx el : TypeId) (d x : Operand) (ho : o.op = .call { callee := .builtin .copy,args := #[d,x],argTypes := #[t,tx] }) (ht : P.underlying t = some (.slice el)) {es : Nat} (hes : szOf P el = some es) {dd : TypeDesc} (htx : P.underlying tx = some dd)
  (r : Rel ρ h w) (he : EnvRel ρ n s a.tmps) (hk : srcKind (aeval s x) dd) {m : Nat} {new : List Value} (esrc : srcOf h es (aeval s x) = some (m,new)) (h1 : new.all oneCell = true)
  {b q k c : Nat} (hd : aeval s d = .slice (some ⟨b,q,none⟩) k c) {h' : H} (e : wr h b q (new.take (min m k * es)) = some h') (hpos : min m k ≠ 0) : Good P o ρ h a w (.int .i64 (min m k)) h' := by
 have xd := aeval_sound he d
 rw [hd] at xd
 obtain ⟨i,o',c',hib,e1,q1,q2,q3,q4⟩ := xd.slice_inv
 have ho' : o' = q + i.sh := by rcases q4 with q4 | q4 <;> omega
 subst ho'
 obtain ⟨new',f1,f2,f3⟩ := src_sound r (aeval_sound he x) esrc h1 htx hk
 obtain ⟨p1,p2,p3,p4,p5⟩ := wr_rel r hib e (f1.take _)
 have hst := run_storeCells_cells (P := P) i.blk (q + i.sh) (new'.take (min m k * es)) 0 w (by simpa using p1) (by simpa using p2) p3
 simp only [Nat.add_zero] at hst
 refine ⟨.int .i64 (min m k),ρ,_,.inl ?_,.int _ _,p4,p5⟩
 have hfc : (Builtin.firstCells es (min m k) (a.eval x)).run P w = .ok (new'.take (min m k * es)).toArray w := by
  rcases srcOf_cases esrc with ⟨g1,g2,g3⟩ | ⟨b2,q2',k2,c2,g1,g2⟩ | ⟨t2,g1,g2,g3,g4⟩ | ⟨b2,q2',z2,g1,g2,g3⟩
  ·subst g2;simp at hpos
  ·have hx' := aeval_sound he x
   rw [g1] at hx'
   obtain ⟨i2,o2,c3,hi2,e2,j1,j2,j3,j4⟩ := hx'.slice_inv
   rcases g2 with ⟨_,g2,_⟩ | ⟨g2,rfl,g3⟩
   ·subst g2;simp at hpos
   ·have ho2 : o2 = q2' + i2.sh := by rcases j4 with j4 | j4 <;> omega
    subst ho2
    have hcells := f2.cells
    rw [e2] at hcells ⊢
    have hln : new'.length = m * es := by rw [← f1.length];exact f3
    obtain ⟨f1',l',f2',f3'⟩ := rd_rel r hi2 g3
    have hfc0 := run_firstCells_some (P := P) w es m ⟨i2.blk,q2' + i2.sh,none⟩ m c3 l' (by rw [← f2'.length];exact f1') (fun j v hv => by rw [Addr.add_mid];exact f3' j v hv)
    rw [hcells] at hfc0
    have hll : new' = l' := by
     have := Result.ok.inj hfc0
     simpa using this.1
    subst hll
    refine run_firstCells_some (P := P) w es (min m k) ⟨i2.blk,q2' + i2.sh,none⟩ m c3 _ ?_ ?_
    ·have : min m k * es ≤ m * es := Nat.mul_le_mul_right _ (Nat.min_le_left _ _)
     simp;omega
    ·intro j v hv
     rw [List.getElem?_take] at hv
     split at hv
     ·rw [Addr.add_mid];exact f3' j v hv
     ·cases hv
  ·have hx' := aeval_sound he x
   rw [g1] at hx'
   have e2 := hx'.string_inv
   subst g2;subst g3;subst g4
   have hcells := f2.cells
   rw [e2] at hcells ⊢
   rw [firstCells_string] at hcells
   have hnn : new' = byteCells t2 := by
    have := Result.ok.inj hcells
    simpa using this.1.symm
   subst hnn
   simp only [Builtin.firstCells,byteCells,Nat.mul_one]
   simp
   apply Array.ext'
   simp
  ·subst g2;simp at hpos
 have hlen : ∀ w' : World,(Builtin.lenOf (a.eval x)).run P w' = .ok m w' := f2.len
 simp only [execOp,ho,resolve,invoke,builtin,Sem.run_bind,Sem.run_pure,Result.andThen_ok]
 simp [e1,Builtin.copy_,run_underlying ht,hlen,run_sizeOf' (w := w) hes,hfc,hst,goInt]
 show ((min m k : Nat) : Int) = _
 omega
theorem good_copyNil (o : Oper) (t tx el : TypeId) (d x : Operand) (ho : o.op = .call { callee := .builtin .copy,args := #[d,x],argTypes := #[t,tx] }) (ht : P.underlying t = some (.slice el)) {es : Nat} (hes : szOf P el = some es) {dd : TypeDesc} (htx : P.underlying tx = some dd)
  (r : Rel ρ h w) (he : EnvRel ρ n s a.tmps) (hk : srcKind (aeval s x) dd) {m : Nat} {new : List Value} (esrc : srcOf h es (aeval s x) = some (m,new))
  {v' : Value} {k : Nat} (hd : ∃ ad c,a.eval d = .slice ad k c) (_hv : v' = a.eval d) (hpos : min m k = 0) : Good P o ρ h a w (.int .i64 0) h := by
 obtain ⟨ad,c,hd⟩ := hd
 have hx' := aeval_sound he x
 have hlen : (Builtin.lenOf (a.eval x)).run P w = .ok m w := by
  rcases srcOf_cases esrc with ⟨g1,g2,g3⟩ | ⟨b2,q2',k2,c2,g1,g2⟩ | ⟨t2,g1,g2,g3,g4⟩ | ⟨b2,q2',z2,g1,g2,g3⟩ <;> rw [g1] at hx'
  ·obtain ⟨_,_,e2⟩ := hx'.snil_inv
   simp [e2,Builtin.lenOf,g2]
  ·obtain ⟨i2,o2,c3,hi2,e2,_⟩ := hx'.slice_inv
   rcases g2 with ⟨g3,g4,_⟩ | ⟨_,g3,_⟩ <;> rw [e2] <;> simp [Builtin.lenOf, *]
  ·have e2 := hx'.string_inv
   simp [e2,Builtin.lenOf,g3]
  ·obtain ⟨ad2,e2⟩ : ∃ ad2,a.eval x = .slice (some ad2) 0 0 := by
    generalize a.eval x = xv at hx'
    cases hx';exact ⟨_,rfl⟩
   simp [e2,Builtin.lenOf,g2]
 have hfc : (Builtin.firstCells es 0 (a.eval x)).run P w = .ok #[] w := by
  rcases srcOf_cases esrc with ⟨g1,g2,g3⟩ | ⟨b2,q2',k2,c2,g1,g2⟩ | ⟨t2,g1,g2,g3,g4⟩ | ⟨b2,q2',z2,g1,g2,g3⟩ <;> rw [g1] at hx'
  ·obtain ⟨_,_,e2⟩ := hx'.snil_inv
   simp [e2,Builtin.firstCells]
  ·obtain ⟨i2,o2,c3,hi2,e2,_⟩ := hx'.slice_inv
   simp [e2,Builtin.firstCells,loadCells,loadCellsFrom]
  ·have e2 := hx'.string_inv
   simp [e2,Builtin.firstCells]
  ·obtain ⟨ad2,e2⟩ : ∃ ad2,a.eval x = .slice (some ad2) 0 0 := by
    generalize a.eval x = xv at hx'
    cases hx';exact ⟨_,rfl⟩
   simp [e2,Builtin.firstCells,loadCells,loadCellsFrom]
 have _ := hk
 have _ := htx
 have hmin : m.min k = 0 := hpos
 refine .same r (.int _ _) ?_
 simp only [execOp,ho,resolve,invoke,builtin,Sem.run_bind,Sem.run_pure,Result.andThen_ok]
 cases ad <;> simp [hd,Builtin.copy_,run_underlying ht,hlen,run_sizeOf' (w := w) hes,hmin,hfc,goInt,storeCells]
theorem zeroCells_list {z : Array Value} (hz : 0 < z.size) (m : Nat) : (Builtin.zeroCells z m).toList = (List.replicate m z.toList).flatten := by
 have := madeCells_list hz m
 unfold madeCells at this
 rw [← this]
 rfl
theorem good_clear (o : Oper) (t el : TypeId) (x : Operand) (ho : o.op = .call { callee := .builtin .clear,args := #[x],argTypes := #[t] }) (ht : P.underlying t = some (.slice el)) {z : List Value} (hz : zeroC P el = some z) (hz0 : 0 < z.length) (r : Rel ρ h w) (he : EnvRel ρ n s a.tmps)
  {b q k c : Nat} (hx : aeval s x = .slice (some ⟨b,q,none⟩) k c) (hk : k ≠ 0) {h' : H} (e : wr h b q (List.replicate k z).flatten = some h') : Good P o ρ h a w (.tuple ⟨[]⟩) h' := by
 have xd := aeval_sound he x
 rw [hx] at xd
 obtain ⟨i,o',c',hib,e1,q1,q2,q3,q4⟩ := xd.slice_inv
 have ho' : o' = q + i.sh := by rcases q4 with q4 | q4 <;> omega
 subst ho'
 obtain ⟨zv,g1,g2,g3,g4⟩ := zeroC_run hz
 obtain ⟨p1,p2,p3,p4,p5⟩ := wr_rel r hib e (VRs.konst (ρ := ρ) (flat_konst g3 k))
 have hst := run_storeCells_cells (P := P) i.blk (q + i.sh) (List.replicate k z).flatten 0 w (by simpa using p1) (by simpa using p2) p3
 simp only [Nat.add_zero] at hst
 have hzc : (Builtin.zeroCells zv.cells k).toList = (List.replicate k z).flatten := by
  rw [zeroCells_list (by rw [← Array.length_toList,g2];exact hz0),g2]
 refine ⟨.tuple #[],ρ,_,.inl ?_,.tuple .nil,p4,p5⟩
 obtain ⟨k,rfl⟩ : ∃ k',k = k' + 1 := ⟨k - 1,by omega⟩
 simp only [execOp,ho,resolve,invoke,builtin,Sem.run_bind,Sem.run_pure,Result.andThen_ok]
 simp [e1,Builtin.clear_,run_underlying ht,g1,hzc,hst]
theorem good_clearNone (o : Oper) (t el : TypeId) (x : Operand) (ho : o.op = .call { callee := .builtin .clear,args := #[x],argTypes := #[t] }) (ht : P.underlying t = some (.slice el)) (r : Rel ρ h w)
  (hx : ∃ ad c,a.eval x = .slice ad 0 c) : Good P o ρ h a w (.tuple ⟨[]⟩) h := by
 obtain ⟨ad,c,hx⟩ := hx
 refine .same r (.tuple .nil) ?_
 simp only [execOp,ho,resolve,invoke,builtin,Sem.run_bind,Sem.run_pure,Result.andThen_ok]
 cases ad <;> simp [hx,Builtin.clear_,run_underlying ht]
theorem ba_eq {a b : ByteArray} : (a == b) = true ↔ a = b := by
 obtain ⟨⟨x⟩⟩ := a
 obtain ⟨⟨y⟩⟩ := b
 have : ((⟨⟨x⟩⟩ : ByteArray) == ⟨⟨y⟩⟩) = (x == y) := by
  show ((⟨x⟩ : Array UInt8) == ⟨y⟩) = (x == y)
  simp
 rw [this]
 simp
theorem map_eraseIdx {α β : Type} (f : α → β) : ∀ (l : List α) (j : Nat),(l.eraseIdx j).map f = (l.map f).eraseIdx j
 | [],_ => by simp
 | _ :: _,0 => by simp
 | x :: l,j + 1 => by simp [map_eraseIdx f l j]
theorem map_modify_set {α β : Type} (f : α → β) (g : α → α) (v : β) (hg : ∀ x,f (g x) = v) : ∀ (l : List α) (j : Nat),(l.modify j g).map f = (l.map f).set j v
 | [],j => by simp
 | x :: l,0 => by simp [hg]
 | x :: l,j + 1 => by simp [map_modify_set f g v hg l j]
theorem key_same {ck : CK} {k k' : Value} (h : VR ρ k k') (hk : isKey ck k = true) : k' = k := by
 cases ck <;> cases h <;> simp [isKey,Ev.junk] at hk <;> rfl
def keyKind (k : Value) (kd : TypeDesc) : Prop :=
 match k with
 | .int _ _ => ∃ q,kd = .int q
 | .string _ => kd = .string
 | .bool _ => kd = .bool
 | _ => False
theorem keyEq_now {kd : TypeDesc} {k e e' : Value} (he : VR ρ e e') {b : Bool} (h : keyEq k e = some b) (hkd : keyKind k kd) : Instr.sameNow kd k e' = some b := by
 unfold keyEq at h
 split at h <;> simp at h
 ·obtain ⟨q,rfl⟩ := hkd
  have := he.int_inv
  subst this
  simp [Instr.sameNow,h]
 ·subst hkd
  have := he.string_inv
  subst this
  simp [Instr.sameNow,h]
 ·subst hkd
  have := he.bool_inv
  subst this
  simp [Instr.sameNow,h]
theorem find_now {kd : TypeDesc} {k : Value} (hkd : keyKind k kd) : ∀ {m : List (Value × Value)} {es : List MapEntry} {i : Nat} {r : Option (Nat × Value)},findM k m i = some r →
  VRs ρ (m.map (·.1)) (es.map (·.key)) → VRs ρ (m.map (·.2)) (es.map (·.val)) →
  ∃ r',Instr.findNow kd k es i = some r' ∧ (match r,r' with
   | none,none => True
   | some (j,v),some (j',v') => j = j' ∧ VR ρ v v' ∧ i ≤ j ∧ j < i + es.length ∧ (∃ e,es[j - i]? = some e ∧ e.key = k)
   | _,_ => False)
 | [],[],i,r,e,_,_ => by simp [findM] at e;subst e;exact ⟨none,rfl,trivial⟩
 | [],_ :: _,_,_,_,h1,_ => by cases h1
 | _ :: _,[],_,_,_,h1,_ => by cases h1
 | (k0,v0) :: m,e0 :: es,i,r,e,h1,h2 => by
  simp only [List.map_cons] at h1 h2
  cases h1 with
  | cons hk0 t1 =>
   cases h2 with
   | cons hv0 t2 =>
    simp only [findM] at e
    cases hq : keyEq k k0 with
    | none => rw [hq] at e;simp at e
    | some b =>
     have hn := keyEq_now hk0 hq hkd
     rw [hq] at e
     cases b with
     | true =>
      simp at e;subst e
      refine ⟨some (i,e0.val),by simp [Instr.findNow,hn],rfl,hv0,Nat.le_refl _,by simp,e0,by simp,?_⟩
      unfold keyEq at hq
      split at hq <;> simp at hq
      ·have := hk0.int_inv;rw [this,hq.1,hq.2]
      ·have := hk0.string_inv;rw [this,ba_eq.1 hq]
      ·have := hk0.bool_inv;rw [this,hq]
     | false =>
      simp at e
      obtain ⟨r',g1,g2⟩ := find_now hkd e t1 t2
      refine ⟨r',by simp [Instr.findNow,hn,g1],?_⟩
      cases r <;> cases r' <;> simp at g2 ⊢
      obtain ⟨g3,g4,g5,g6,e2,g7,g8⟩ := g2
      refine ⟨g3,g4,by omega,by omega,e2,?_,g8⟩
      rename_i p _
      rw [show p.1 - i = (p.1 - (i + 1)) + 1 by omega]
      simpa using g7
theorem checkKey_run {kt : TypeId} {kd : TypeDesc} (hk : P.underlying kt = some kd) {k : Value} (hkd : keyKind k kd) (b : Bool) : (Instr.checkKey b 10000 kt k).run P w = .ok () w := by
 show (Instr.checkKey b (9999 + 1) kt k).run P w = .ok () w
 generalize 9999 = q
 cases k <;> simp [keyKind] at hkd
 ·subst hkd;simp [Instr.checkKey,run_underlying hk]
 ·obtain ⟨q',rfl⟩ := hkd;simp [Instr.checkKey,run_underlying hk]
 ·subst hkd;simp [Instr.checkKey,run_underlying hk]
theorem findKey_run {kt : TypeId} {kd : TypeDesc} (hk : P.underlying kt = some kd) {k : Value} {es : List MapEntry} {r : Option (Nat × Value)} (e : Instr.findNow kd k es 0 = some r) : (Instr.findKey kt k es).run P w = .ok r w := by
 simp [Instr.findKey,run_underlying hk,e]
theorem good_lookup (o : Oper) (t kt et : TypeId) (x k : Operand) (ok : Bool) (ho : o.op = .lookup t x k ok) (ht : P.underlying t = some (.map kt et)) {kd : TypeDesc} (hkt : P.underlying kt = some kd) {z zv : Value} (hz : ∀ w,(zeroValue et).run P w = .ok zv w) (hzz : VR ρ z zv)
  (r : Rel ρ h w) (he : EnvRel ρ n s a.tmps) {m : List (Value × Value)} (hm : entriesOf h (aeval s x) = some m) {ck : CK} (hkey : isKey ck (aeval s k) = true) (hkd : keyKind (aeval s k) kd) {q : Option (Nat × Value)} (hf : findM (aeval s k) m 0 = some q)
  {v : Value} (hv : v = match q with
   | some (_,u) => if ok then .tuple ⟨[u,.bool true]⟩ else u
   | none => if ok then .tuple ⟨[z,.bool false]⟩ else z) : Good P o ρ h a w v h := by
 have x1 := aeval_sound he x
 have e2 := key_same (aeval_sound he k) hkey
 unfold entriesOf at hm
 split at hm
 ·rename_i hx
  rw [hx] at x1
  have e1 := x1.mnil_inv
  simp at hm;subst hm
  simp [findM] at hf;subst hf
  simp at hv;subst hv
  have hck := checkKey_run (P := P) (w := w) hkt hkd
  have hfk := findKey_run (P := P) (w := w) hkt (k := aeval s k) (es := []) (r := none) rfl
  cases ok
  ·exact .same r hzz (by simp [execOp,ho,Instr.lookup,run_underlying ht,e1,e2,hck,hfk,hz])
  ·exact .same (v' := .tuple ⟨[zv,.bool false]⟩) r (.tuple (.cons hzz (.cons (.bool _) .nil))) (by simp [execOp,ho,Instr.lookup,run_underlying ht,e1,e2,hck,hfk,hz])
 ·rename_i b hx
  rw [hx] at x1
  obtain ⟨i,hi,e1⟩ := x1.map_inv
  split at hm
  ·rename_i es0 lv hb
   simp at hm;subst hm
   obtain ⟨es',clock,g1,g2,g3,g4,g5⟩ := r.blk b i _ hi hb
   have hck := checkKey_run (P := P) (w := w) hkt hkd
   obtain ⟨r',f1,f2⟩ := find_now hkd hf g2 g3
   have hfk := findKey_run (P := P) (w := w) hkt f1
   cases q with
   | none =>
    cases r' with
    | some p => simp at f2
    | none =>
     simp at hv;subst hv
     cases ok
     ·exact .same r hzz (by simp [execOp,ho,Instr.lookup,run_underlying ht,e1,e2,getObj,Sem.run,g1,hck,hfk,hz])
     ·exact .same (v' := .tuple ⟨[zv,.bool false]⟩) r (.tuple (.cons hzz (.cons (.bool _) .nil))) (by simp [execOp,ho,Instr.lookup,run_underlying ht,e1,e2,getObj,Sem.run,g1,hck,hfk,hz])
   | some p =>
    cases r' with
    | none => simp at f2
    | some p' =>
     obtain ⟨j,u⟩ := p
     obtain ⟨j',u'⟩ := p'
     obtain ⟨_,f3,_⟩ := f2
     simp at hv;subst hv
     cases ok
     ·exact .same r f3 (by simp [execOp,ho,Instr.lookup,run_underlying ht,e1,e2,getObj,Sem.run,g1,hck,hfk])
     ·exact .same (v' := .tuple ⟨[u',.bool true]⟩) r (.tuple (.cons f3 (.cons (.bool _) .nil))) (by simp [execOp,ho,Instr.lookup,run_underlying ht,e1,e2,getObj,Sem.run,g1,hck,hfk])
  ·cases hm
 ·cases hm
theorem VRs.set : ∀ {l l' : List Value} (i : Nat) {v v' : Value},VRs ρ l l' → VR ρ v v' → VRs ρ (l.set i v) (l'.set i v')
 | _,_,_,_,_,.nil,_ => by simp;exact .nil
 | _,_,0,_,_,.cons _ t,hv => by simp;exact .cons hv t
 | _,_,i + 1,_,_,.cons h t,hv => by simp;exact .cons h (t.set i hv)
theorem VRs.erase : ∀ {l l' : List Value} (i : Nat),VRs ρ l l' → VRs ρ (l.eraseIdx i) (l'.eraseIdx i)
 | _,_,_,.nil => by simp;exact .nil
 | _,_,0,.cons _ t => by simp;exact t
 | _,_,i + 1,.cons h t => by simp;exact .cons h (t.erase i)
theorem map_rel (r : Rel ρ h w) {b : Nat} {i : Info} (hb : ρ b = some i) {es : List (Value × Value)} (hx : h[b]? = some (.map es true)) (es2 : List (Value × Value)) (es' : Array MapEntry) (clock : Nat)
  (h1 : VRs ρ (es2.map (·.1)) (es'.toList.map (·.key))) (h2 : VRs ρ (es2.map (·.2)) (es'.toList.map (·.val))) (h3 : (∀ x ∈ es'.toList,x.born < clock) ∧ (es'.toList.map (·.born)).Nodup) :
  Rel ρ (h.setIfInBounds b (.map es2 true)) { w with heap := w.heap.setIfInBounds i.blk (.map es' clock) } ∧ Ext ρ h w ρ (h.setIfInBounds b (.map es2 true)) { w with heap := w.heap.setIfInBounds i.blk (.map es' clock) } := by
 have hbs := r.dom b i hb
 have hbw := r.bnd b i hb
 have hother : ∀ {j : Nat},j ≠ i.blk → ({ w with heap := w.heap.setIfInBounds i.blk (.map es' clock) } : World).heap[j]? = w.heap[j]? := by
  intro j hj
  show (w.heap.setIfInBounds i.blk (.map es' clock))[j]? = _
  rw [Array.getElem?_setIfInBounds_ne (Ne.symm hj)]
 have hself : ({ w with heap := w.heap.setIfInBounds i.blk (.map es' clock) } : World).heap[i.blk]? = some (.map es' clock) := by
  show (w.heap.setIfInBounds i.blk (.map es' clock))[i.blk]? = _
  rw [Array.getElem?_setIfInBounds_self_of_lt hbw]
 have same : ∀ {c k x},ρ c = some k → h[c]? = some x → x.isDead = false → k.blk = i.blk → c = b := by
  intro c k x hk hc hd hkl
  apply Classical.byContradiction
  intro hne
  rcases r.sep c b k i x _ hk hb hkl hne hc hx hd rfl with ⟨g1,_⟩ | ⟨_,g2,_⟩
  ·simp [Blk.ancs] at g1
  ·simp [Blk.isLive] at g2
 have back : ∀ {c : Nat} {x : Blk},(h.setIfInBounds b (.map es2 true))[c]? = some x → (c = b ∧ x = .map es2 true) ∨ (c ≠ b ∧ h[c]? = some x) := by
  intro c x hc
  by_cases hcb : c = b
  ·subst hcb
   rw [Array.getElem?_setIfInBounds_self_of_lt hbs] at hc
   cases hc;exact .inl ⟨rfl,rfl⟩
  ·rw [Array.getElem?_setIfInBounds_ne (Ne.symm hcb)] at hc
   exact .inr ⟨hcb,hc⟩
 refine upg2 r ⟨⟨fun c k hk => by simp;exact r.dom c k hk,fun c k hk => by show k.blk < (w.heap.setIfInBounds i.blk (.map es' clock)).size;simp;exact r.bnd c k hk,?_,?_,?_,r.glb⟩,⟨.refl _,by simp,by show _ ≤ (w.heap.setIfInBounds i.blk (.map es' clock)).size;simp,?_,?_,fun _ _ h => .inl h,?_,⟨rfl,rfl⟩⟩⟩
 ·intro c k x hk hc
  rcases back hc with ⟨rfl,rfl⟩ | ⟨hcb,hc'⟩
  ·rw [hb] at hk;cases hk
   exact ⟨es',clock,hself,h1,h2,h3⟩
  ·by_cases hd : x.isDead = true
   ·cases x <;> simp [Blk.isDead] at hd;trivial
   ·have hd : x.isDead = false := by simpa using hd
    have hkl : k.blk ≠ i.blk := fun e => hcb (same hk hc' hd e)
    exact (r.blk c k x hk hc').keep (.refl _) (hother hkl)
 ·intro c d k l x y hk hl hkl hne hc hd hxd hyd
  rcases back hc with ⟨rfl,rfl⟩ | ⟨hcb,hc'⟩
  ·rw [hb] at hk;cases hk
   rcases back hd with ⟨rfl,rfl⟩ | ⟨hdb,hd'⟩
   ·exact absurd rfl hne
   ·exact absurd (same hl hd' hyd hkl.symm) hdb
  ·rcases back hd with ⟨rfl,rfl⟩ | ⟨hdb,hd'⟩
   ·rw [hb] at hl;cases hl
    exact absurd (same hk hc' hxd hkl) hcb
   ·exact r.sep c d k l x y hk hl hkl hne hc' hd' hxd hyd
 ·intro c k x a hk hc ha
  rcases back hc with ⟨rfl,rfl⟩ | ⟨_,hc'⟩
  ·cases ha
  ·exact r.anc c k x a hk hc' ha
 ·intro c hcl hn
  have hcb : c ≠ b := fun e => by subst e;rw [hb] at hn;cases hn
  rw [Array.getElem?_setIfInBounds_ne (Ne.symm hcb)]
 ·intro b' hb' hl'
  apply hother
  intro e;subst e
  have := hl' b i _ hb rfl hx
  simp [Blk.isLive] at this
 ·intro c x x' hcl h3 h4 h5
  rcases back h4 with ⟨rfl,rfl⟩ | ⟨_,hc'⟩
  ·rw [hx] at h3;cases h3;simp [Blk.isLive] at h5
  ·rw [h3] at hc';cases hc';exact h5
theorem modify_list {α : Type} (l : Array α) (i : Nat) (f : α → α) : (l.modify i f).toList = l.toList.modify i f := by simp
theorem sameBits_key {ck : CK} {k : Value} (hk : isKey ck k = true) : Instr.sameBits 10000 k k = true := by
 cases ck <;> cases k <;> simp [isKey] at hk <;> simp [Instr.sameBits]
 exact ba_eq.2 rfl
def ckOf : TypeDesc → Option CK
 | .int _ => some .int
 | .string => some .str
 | .bool => some .bool
 | _ => none
theorem keyKind_of {ck : CK} {k : Value} {d : TypeDesc} (hd : ckOf d = some ck) (hk : isKey ck k = true) : keyKind k d := by
 cases d <;> simp [ckOf] at hd <;> subst hd <;> cases k <;> simp [isKey] at hk <;> simp [keyKind]
theorem good_mapUpd (o : Oper) (t kt et : TypeId) (x k y : Operand) (ho : o.op = .mapUpdate t x k y ∨ o.op = .insert t x k y) (ht : P.underlying t = some (.map kt et)) {kd : TypeDesc} (hkt : P.underlying kt = some kd) (r : Rel ρ h w) (he : EnvRel ρ n s a.tmps)
  {b : Nat} (hx : aeval s x = .map (some b)) {m : List (Value × Value)} (hb : h[b]? = some (.map m true)) {ck : CK} (hkey : isKey ck (aeval s k) = true) (hkd : keyKind (aeval s k) kd) {q : Option (Nat × Value)} (hf : findM (aeval s k) m 0 = some q) {m2 : List (Value × Value)}
  (hv : m2 = match q with
    | some (i,_) => m.set i (aeval s k,aeval s y)
    | none => m ++ [(aeval s k,aeval s y)]) : Good P o ρ h a w junk (h.setIfInBounds b (.map m2 true)) := by
 have x1 := aeval_sound he x
 rw [hx] at x1
 obtain ⟨i,hi,e1⟩ := x1.map_inv
 have hk1 := aeval_sound he k
 have e2 := key_same hk1 hkey
 have hy := aeval_sound he y
 obtain ⟨es',clock,g1,g2,g3,g4,g5⟩ := r.blk b i _ hi hb
 have hck := checkKey_run (P := P) (w := w) hkt hkd
 obtain ⟨r',f1,f2⟩ := find_now hkd hf g2 g3
 have hfk := findKey_run (P := P) (w := w) hkt f1
 have hop : ∀ w',(Instr.mapUpdate t (a.eval x) (a.eval k) (a.eval y)).run P w = .ok () w' → (execOp a.eval o).run P w = .ok .skip w' := by
  intro w' hw
  rcases ho with ho | ho <;> simp [execOp,ho,hw]
 cases q with
 | none =>
  cases r' with
  | some p => simp at f2
  | none =>
   simp only at hv;subst hv
   obtain ⟨r1,r2⟩ := map_rel r hi hb (m ++ [(aeval s k,aeval s y)]) (es'.push { key := aeval s k,val := a.eval y,born := clock }) (clock + 1)
    (by simp only [List.map_append,Array.toList_push];exact g2.append (.cons (by rw [e2] at hk1;exact hk1) .nil))
    (by simp only [List.map_append,Array.toList_push];exact g3.append (.cons hy .nil))
    (by
      simp only [Array.toList_push,List.map_append,List.map_cons,List.map_nil]
      refine ⟨fun x hx => ?_,?_⟩
      ·rcases List.mem_append.1 hx with hx | hx
       ·have := g4 x hx;omega
       ·simp at hx;subst hx;simp
      ·rw [List.nodup_append]
       refine ⟨g5,by simp,?_⟩
       rintro a ha b hb rfl
       simp at hb
       obtain ⟨x,hx,rfl⟩ := List.mem_map.1 ha
       have := g4 x hx
       omega)
   refine ⟨undef,ρ,_,.inr ⟨hop _ ?_,rfl⟩,.junk _,r1,r2⟩
   simp [Instr.mapUpdate,run_underlying ht,e1,e2,getObj,setObj,Sem.run,g1,hck,hfk]
 | some p =>
  cases r' with
  | none => simp at f2
  | some p' =>
   obtain ⟨j,u⟩ := p
   obtain ⟨j',u'⟩ := p'
   obtain ⟨rfl,f3,_,f5,e0,f6,f7⟩ := f2
   simp only at hv;subst hv
   simp only [Nat.sub_zero] at f6
   have f6' : es'[j]? = some e0 := by simpa using f6
   obtain ⟨r1,r2⟩ := map_rel r hi hb (m.set j (aeval s k,aeval s y)) (es'.modify j fun e => { e with key := aeval s k,val := a.eval y }) clock
    (by
      rw [modify_list,List.map_set,map_modify_set (fun x : MapEntry => x.key) _ (aeval s k) (fun _ => rfl)]
      exact g2.set j (by rw [e2] at hk1;exact hk1))
    (by
      rw [modify_list,List.map_set,map_modify_set (fun x : MapEntry => x.val) _ (a.eval y) (fun _ => rfl)]
      exact g3.set j hy)
    (by
      have hbn : (es'.modify j fun e => { e with key := aeval s k,val := a.eval y }).toList.map (·.born) = es'.toList.map (·.born) := by
       rw [modify_list]
       apply List.ext_getElem?
       intro q
       rw [List.getElem?_map,List.getElem?_map,List.getElem?_modify]
       by_cases hq : j = q
       ·subst hq
        cases es'.toList[j]? <;> simp
       ·cases es'.toList[q]? <;> simp [hq]
      rw [hbn]
      refine ⟨fun x hx => ?_,g5⟩
      have : x.born ∈ (es'.modify j fun e => { e with key := aeval s k,val := a.eval y }).toList.map (·.born) := List.mem_map.2 ⟨x,hx,rfl⟩
      rw [hbn] at this
      obtain ⟨z,hz,e⟩ := List.mem_map.1 this
      rw [← e]
      exact g4 z hz)
   refine ⟨undef,ρ,_,.inr ⟨hop _ ?_,rfl⟩,.junk _,r1,r2⟩
   have hsb := sameBits_key hkey
   simp [Instr.mapUpdate,run_underlying ht,e1,e2,getObj,setObj,Sem.run,g1,hck,hfk,f6',f7,Instr.keyThatStays,hsb]
theorem good_delete (o : Oper) (t kt et tk : TypeId) (x k : Operand) (ho : o.op = .call { callee := .builtin .delete,args := #[x,k],argTypes := #[t,tk] }) (ht : P.underlying t = some (.map kt et)) {kd : TypeDesc} (hkt : P.underlying kt = some kd) (r : Rel ρ h w) (he : EnvRel ρ n s a.tmps)
  {b : Nat} (hx : aeval s x = .map (some b)) {m : List (Value × Value)} (hb : h[b]? = some (.map m true)) {ck : CK} (hkey : isKey ck (aeval s k) = true) (hkd : keyKind (aeval s k) kd) {q : Option (Nat × Value)} (hf : findM (aeval s k) m 0 = some q) {h' : H}
  (hv : h' = match q with
    | some (i,_) => h.setIfInBounds b (.map (m.eraseIdx i) true)
    | none => h) : Good P o ρ h a w (.tuple ⟨[]⟩) h' := by
 have x1 := aeval_sound he x
 rw [hx] at x1
 obtain ⟨i,hi,e1⟩ := x1.map_inv
 have e2 := key_same (aeval_sound he k) hkey
 obtain ⟨es',clock,g1,g2,g3,g4,g5⟩ := r.blk b i _ hi hb
 have hck := checkKey_run (P := P) (w := w) hkt hkd
 obtain ⟨r',f1,f2⟩ := find_now hkd hf g2 g3
 have hfk := findKey_run (P := P) (w := w) hkt f1
 cases q with
 | none =>
  cases r' with
  | some p => simp at f2
  | none =>
   simp only at hv;subst hv
   have hself : ({ w with heap := w.heap.setIfInBounds i.blk (.map es' clock) } : World) = w := by
    have hlt := r.bnd b i hi
    have : w.heap.setIfInBounds i.blk (.map es' clock) = w.heap := by
     apply Array.ext_getElem?
     intro j
     by_cases hj : i.blk = j
     ·subst hj;rw [Array.getElem?_setIfInBounds_self_of_lt hlt,g1]
     ·rw [Array.getElem?_setIfInBounds_ne hj]
    rw [this]
   refine .same r (.tuple .nil) ?_
   simp only [execOp,ho,resolve,invoke,builtin,Sem.run_bind,Sem.run_pure,Result.andThen_ok]
   simp [Builtin.delete_,run_underlying ht,e1,e2,getObj,setObj,Sem.run,g1,hck,hfk,hself]
 | some p =>
  cases r' with
  | none => simp at f2
  | some p' =>
   obtain ⟨j,u⟩ := p
   obtain ⟨j',u'⟩ := p'
   obtain ⟨rfl,_,_,f5,_⟩ := f2
   simp only at hv;subst hv
   have hjl : j < es'.size := by simpa using f5
   have hel : (es'.eraseIdxIfInBounds j).toList = es'.toList.eraseIdx j := by simp [Array.eraseIdxIfInBounds,hjl]
   obtain ⟨r1,r2⟩ := map_rel r hi hb (m.eraseIdx j) (es'.eraseIdxIfInBounds j) clock
    (by rw [hel,map_eraseIdx,map_eraseIdx];exact g2.erase j)
    (by rw [hel,map_eraseIdx,map_eraseIdx];exact g3.erase j)
    (by
      rw [hel]
      refine ⟨fun x hx => g4 x ((List.eraseIdx_sublist _ _).subset hx),?_⟩
      exact List.Nodup.sublist ((List.eraseIdx_sublist _ _).map _) g5)
   refine ⟨.tuple #[],ρ,_,.inl ?_,.tuple .nil,r1,r2⟩
   simp only [execOp,ho,resolve,invoke,builtin,Sem.run_bind,Sem.run_pure,Result.andThen_ok]
   simp [Builtin.delete_,run_underlying ht,e1,e2,getObj,setObj,Sem.run,g1,hck,hfk]
theorem good_deleteNil (o : Oper) (t kt et tk : TypeId) (x k : Operand) (ho : o.op = .call { callee := .builtin .delete,args := #[x,k],argTypes := #[t,tk] }) (ht : P.underlying t = some (.map kt et)) {kd : TypeDesc} (hkt : P.underlying kt = some kd) (r : Rel ρ h w) (he : EnvRel ρ n s a.tmps)
  (hx : aeval s x = .map none) {ck : CK} (hkey : isKey ck (aeval s k) = true) (hkd : keyKind (aeval s k) kd) : Good P o ρ h a w (.tuple ⟨[]⟩) h := by
 have x1 := aeval_sound he x
 rw [hx] at x1
 have e1 := x1.mnil_inv
 have e2 := key_same (aeval_sound he k) hkey
 have hck := checkKey_run (P := P) (w := w) hkt hkd
 refine .same r (.tuple .nil) ?_
 simp only [execOp,ho,resolve,invoke,builtin,Sem.run_bind,Sem.run_pure,Result.andThen_ok]
 simp [Builtin.delete_,run_underlying ht,e1,e2,hck]
end Go.Ev
namespace Go.Ev
variable {P : Program} {ρ : Ren} {h : H} {a : Act} {w : World} {s : Env} {n : Nat}
def isIfaceB (P : Program) (t : TypeId) : Bool := match P.underlying t with
 | some (.interface _) => true
 | some _ => false
 | none => true
theorem run_nilI (t : TypeId) {ms : _} (hu : P.underlying t = some (.interface ms)) {x x' : Value} (hx : VR ρ x x') {q : Bool} (e : isNilI x = some q) : (Op.equal t x' .nilIface).run P w = .ok q w := by
 show (Op.equalIn (9999 + 1) t x' .nilIface).run P w = .ok q w
 generalize 9999 = dd
 unfold isNilI at e
 split at e <;> simp at e <;> subst e <;> cases hx <;> simp [Op.equalIn,run_underlying hu]
theorem good_eqNilI (o : Oper) (neg : Bool) (t ty : TypeId) (x : Operand) (ho : o.op = .binOp (if neg then .neq else .eql) t x (.const .nilIface) ty) {ms : _} (hu : P.underlying t = some (.interface ms)) (r : Rel ρ h w) (he : EnvRel ρ n s a.tmps)
  {q : Bool} (e : isNilI (aeval s x) = some q) : Good P o ρ h a w (.bool (if neg then !q else q)) h := by
 have h1 := aeval_sound he x
 have hr := run_nilI (P := P) (w := w) t hu h1 e
 refine .same r (.bool _) ?_
 have g1 : ∀ op,(eqGuard op t x (.const .nilIface) (a.eval x) .nilIface).run P w = .ok () w := by
  intro op
  generalize aeval s x = u1 at *
  generalize a.eval x = v1 at *
  unfold isNilI at e
  split at e <;> simp at e <;> cases h1 <;> by_cases hop : op = .eql ∨ op = .neq <;> first
   | (rcases hop with rfl | rfl <;> simp [eqGuard])
   | (cases op <;> simp at hop <;> simp [eqGuard])
 have g2 : ∀ op,op = .eql ∨ op = .neq → (binOp op t (a.eval x) .nilIface).run P w = .ok (.bool (if op = .neq then !q else q)) w := by
  intro op hop
  generalize aeval s x = u1 at *
  generalize a.eval x = v1 at *
  unfold isNilI at e
  split at e <;> simp at e <;> cases h1 <;> rcases hop with rfl | rfl <;> simp_all [binOp]
 have e0 : a.eval (.const .nilIface) = .nilIface := rfl
 cases neg
 ·have := g2 .eql (.inl rfl)
  simp at this
  simp [execOp,ho,e0,g1 .eql,this]
 ·have := g2 .neq (.inr rfl)
  simp at this
  simp [execOp,ho,e0,g1 .neq,this]
theorem good_mkIface (o : Oper) (t : TypeId) (x : Operand) (ho : o.op = .makeInterface t x) (ht : isIfaceB P t = false) (r : Rel ρ h w) (he : EnvRel ρ n s a.tmps) : Good P o ρ h a w (.iface t (aeval s x)) h := by
 refine .same r (.iface t (aeval_sound he x)) ?_
 unfold isIfaceB at ht
 split at ht
 ·cases ht
 ·rename_i d hd hu
  simp only [execOp,ho,Instr.makeInterface,Sem.run_bind,run_underlying hu,Result.andThen_ok]
  cases d <;> first
   | (exact absurd rfl (hd _))
   | simp
 ·cases ht
def arrOf (P : Program) (t : TypeId) : Option (Nat × TypeId) := match P.underlying t with | some (.array m e) => some (m,e) | _ => none
theorem arrOf_some {t : TypeId} {p : Nat × TypeId} (h : arrOf P t = some p) : P.underlying t = some (.array p.1 p.2) := by
 unfold arrOf at h
 split at h
 ·cases h;assumption
 ·cases h
theorem good_indexAddrA (o : Oper) (t : TypeId) (x i : Operand) (ho : o.op = .indexAddr t x i) {m : Nat} {el : TypeId} (ht : P.underlying t = some (.array m el)) {sz : Nat} (hs : szOf P el = some sz) (r : Rel ρ h w) (he : EnvRel ρ n s a.tmps)
  {b q : Nat} (e : aeval s x = .pointer (some ⟨b,q,none⟩)) {k : IntKind} {j : Int} (ei : aeval s i = .int k j) (h0 : 0 ≤ j) (hj : j < m) : Good P o ρ h a w (.pointer (some ⟨b,q + j.toNat * sz,none⟩)) h := by
 have h1 := aeval_sound he x
 rw [e] at h1
 have h2 := aeval_sound he i
 rw [ei] at h2
 obtain ⟨i',hi,e1⟩ := h1.ptr_inv
 have e2 := h2.int_inv
 refine .same (v' := .pointer (some ⟨i'.blk,q + j.toNat * sz + i'.sh,none⟩)) r (.ptr hi) ?_
 simp only [execOp,ho,e1,e2,Instr.indexAt,Sem.run_bind,asIntOf,Sem.run_pure,Result.andThen_ok,run_underlying ht,Instr.sureAddr]
 simp [h0,hj,Addr.add_mid,run_sizeOf' (w := w) hs];omega
theorem good_indexCell (o : Oper) (t : TypeId) (x i : Operand) (ho : o.op = .index t x i) {m : Nat} {el : TypeId} (ht : P.underlying t = some (.array m el)) (hb : isRowB P el = some false) {sz : Nat} (hs : szOf P el = some sz) (r : Rel ρ h w) (he : EnvRel ρ n s a.tmps)
  {l : List Value} (e : aeval s x = .agg ⟨l⟩) {k : IntKind} {j : Int} (ei : aeval s i = .int k j) (h0 : 0 ≤ j) (hj : j < m) {v : Value} (hv : l[j.toNat * sz]? = some v) : Good P o ρ h a w v h := by
 have h1 := aeval_sound he x
 rw [e] at h1
 have h2 := aeval_sound he i
 rw [ei] at h2
 obtain ⟨l',e1,g⟩ := h1.agg_inv
 have e2 := h2.int_inv
 obtain ⟨v',g1,g2⟩ := g.get hv
 refine .same r g2 ?_
 simp only [execOp,ho,e1,e2,Instr.index,Sem.run_bind,asIntOf,Sem.run_pure,Result.andThen_ok,run_underlying ht]
 simp [h0,hj,run_sizeOf' (w := w) hs,run_part_cell (P := P) (w := w) hb l' _ g1]
theorem good_indexRow (o : Oper) (t : TypeId) (x i : Operand) (ho : o.op = .index t x i) {m : Nat} {el : TypeId} (ht : P.underlying t = some (.array m el)) (hb : isRowB P el = some true) {sz : Nat} (hs : szOf P el = some sz) (r : Rel ρ h w) (he : EnvRel ρ n s a.tmps)
  {l : List Value} (e : aeval s x = .agg ⟨l⟩) {k : IntKind} {j : Int} (ei : aeval s i = .int k j) (h0 : 0 ≤ j) (hj : j < m) : Good P o ρ h a w (.agg ⟨(l.drop (j.toNat * sz)).take sz⟩) h := by
 have h1 := aeval_sound he x
 rw [e] at h1
 have h2 := aeval_sound he i
 rw [ei] at h2
 obtain ⟨l',e1,g⟩ := h1.agg_inv
 have e2 := h2.int_inv
 refine .same r (.agg ((g.drop _).take _)) ?_
 simp only [execOp,ho,e1,e2,Instr.index,Sem.run_bind,asIntOf,Sem.run_pure,Result.andThen_ok,run_underlying ht]
 simp [h0,hj,run_sizeOf' (w := w) hs,run_part_row (P := P) (w := w) hb hs l']
theorem good_rangeStr (o : Oper) (t : TypeId) (x : Operand) (ho : o.op = .range t x) (ht : P.underlying t = some .string) (r : Rel ρ h w) (he : EnvRel ρ n s a.tmps) {q : ByteArray} (e : aeval s x = .string q) :
  Good P o ρ h a w (.pointer (some ⟨h.size,0,none⟩)) (h.push (.iter q 0)) := by
 have h1 := aeval_sound he x
 rw [e] at h1
 have e1 := h1.string_inv
 have hnew := heap_alloc_new w (.stringIter q 0)
 obtain ⟨r1,r2⟩ := push_rel r (.stringIter q 0) (.iter q 0) ⟨w.heap.size,0,0,0⟩ rfl ⟨rfl,hnew⟩ (by simp [Blk.ancs])
 refine ⟨.pointer (some ⟨w.heap.size,0,none⟩),_,w.alloc (.stringIter q 0),.inl ?_,?_,r1,r2⟩
 ·simp [execOp,ho,Instr.range,e1,newObj,Sem.run_bind,run_underlying ht,Sem.run]
 ·exact .ptr (i := ⟨w.heap.size,0,0,0⟩) (by simp [Ren.put])
theorem iter_rel (r : Rel ρ h w) {b : Nat} {i : Info} (hb : ρ b = some i) {q : ByteArray} {p : Nat} (hx : h[b]? = some (.iter q p)) (p2 : Nat) :
  Rel ρ (h.setIfInBounds b (.iter q p2)) { w with heap := w.heap.setIfInBounds i.blk (.stringIter q p2) } ∧ Ext ρ h w ρ (h.setIfInBounds b (.iter q p2)) { w with heap := w.heap.setIfInBounds i.blk (.stringIter q p2) } := by
 have hbs := r.dom b i hb
 have hbw := r.bnd b i hb
 have hbr := r.blk b i _ hb hx
 have hother : ∀ {j : Nat},j ≠ i.blk → ({ w with heap := w.heap.setIfInBounds i.blk (.stringIter q p2) } : World).heap[j]? = w.heap[j]? := by
  intro j hj
  show (w.heap.setIfInBounds i.blk (.stringIter q p2))[j]? = _
  rw [Array.getElem?_setIfInBounds_ne (Ne.symm hj)]
 have hself : ({ w with heap := w.heap.setIfInBounds i.blk (.stringIter q p2) } : World).heap[i.blk]? = some (.stringIter q p2) := by
  show (w.heap.setIfInBounds i.blk (.stringIter q p2))[i.blk]? = _
  rw [Array.getElem?_setIfInBounds_self_of_lt hbw]
 have same : ∀ {c k x},ρ c = some k → h[c]? = some x → x.isDead = false → k.blk = i.blk → c = b := by
  intro c k x hk hc hd hkl
  apply Classical.byContradiction
  intro hne
  rcases r.sep c b k i x _ hk hb hkl hne hc hx hd rfl with ⟨g1,_⟩ | ⟨_,g2,_⟩
  ·simp [Blk.ancs] at g1
  ·simp [Blk.isLive] at g2
 have back : ∀ {c : Nat} {x : Blk},(h.setIfInBounds b (.iter q p2))[c]? = some x → (c = b ∧ x = .iter q p2) ∨ (c ≠ b ∧ h[c]? = some x) := by
  intro c x hc
  by_cases hcb : c = b
  ·subst hcb
   rw [Array.getElem?_setIfInBounds_self_of_lt hbs] at hc
   cases hc;exact .inl ⟨rfl,rfl⟩
  ·rw [Array.getElem?_setIfInBounds_ne (Ne.symm hcb)] at hc
   exact .inr ⟨hcb,hc⟩
 refine upg2 r ⟨⟨fun c k hk => by simp;exact r.dom c k hk,fun c k hk => by show k.blk < (w.heap.setIfInBounds i.blk (.stringIter q p2)).size;simp;exact r.bnd c k hk,?_,?_,?_,r.glb⟩,⟨.refl _,by simp,by show _ ≤ (w.heap.setIfInBounds i.blk (.stringIter q p2)).size;simp,?_,?_,fun _ _ h => .inl h,?_,⟨rfl,rfl⟩⟩⟩
 ·intro c k x hk hc
  rcases back hc with ⟨rfl,rfl⟩ | ⟨hcb,hc'⟩
  ·rw [hb] at hk;cases hk
   exact ⟨hbr.1,hself⟩
  ·by_cases hd : x.isDead = true
   ·cases x <;> simp [Blk.isDead] at hd;trivial
   ·have hd : x.isDead = false := by simpa using hd
    have hkl : k.blk ≠ i.blk := fun e => hcb (same hk hc' hd e)
    exact (r.blk c k x hk hc').keep (.refl _) (hother hkl)
 ·intro c d k l x y hk hl hkl hne hc hd hxd hyd
  rcases back hc with ⟨rfl,rfl⟩ | ⟨hcb,hc'⟩
  ·rw [hb] at hk;cases hk
   rcases back hd with ⟨rfl,rfl⟩ | ⟨hdb,hd'⟩
   ·exact absurd rfl hne
   ·exact absurd (same hl hd' hyd hkl.symm) hdb
  ·rcases back hd with ⟨rfl,rfl⟩ | ⟨hdb,hd'⟩
   ·rw [hb] at hl;cases hl
    exact absurd (same hk hc' hxd hkl) hcb
   ·exact r.sep c d k l x y hk hl hkl hne hc' hd' hxd hyd
 ·intro c k x a hk hc ha
  rcases back hc with ⟨rfl,rfl⟩ | ⟨_,hc'⟩
  ·cases ha
  ·exact r.anc c k x a hk hc' ha
 ·intro c hcl hn
  have hcb : c ≠ b := fun e => by subst e;rw [hb] at hn;cases hn
  rw [Array.getElem?_setIfInBounds_ne (Ne.symm hcb)]
 ·intro b' hb' hl'
  apply hother
  intro e;subst e
  have := hl' b i _ hb rfl hx
  simp [Blk.isLive] at this
 ·intro c x x' hcl h3 h4 h5
  rcases back h4 with ⟨rfl,rfl⟩ | ⟨_,hc'⟩
  ·rw [hx] at h3;cases h3;simp [Blk.isLive] at h5
  ·rw [h3] at hc';cases hc';exact h5
theorem good_nextStr (o : Oper) (x : Operand) (ho : o.op = .next x true) (r : Rel ρ h w) (he : EnvRel ρ n s a.tmps) {b : Nat} (e : aeval s x = .pointer (some ⟨b,0,none⟩)) {q : ByteArray} {p : Nat} (hx : h[b]? = some (.iter q p)) {v : Value} {h' : H}
  (hv : (if p < q.size then some (Value.tuple ⟨[.bool true,.int .i64 p,.int .i32 (Utf8.decode q p).1]⟩,h.setIfInBounds b (.iter q (p + (Utf8.decode q p).2))) else some (.tuple ⟨[.bool false]⟩,h)) = some (v,h')) : Good P o ρ h a w v h' := by
 have h1 := aeval_sound he x
 rw [e] at h1
 obtain ⟨i,hi,e1⟩ := h1.ptr_inv
 obtain ⟨hsh,hw⟩ := r.blk b i _ hi hx
 rw [hsh] at e1
 split at hv
 ·rename_i hp
  cases hv
  obtain ⟨r1,r2⟩ := iter_rel r hi hx (p + (Utf8.decode q p).2)
  refine ⟨_,ρ,_,.inl ?_,.tuple (.cons (.bool _) (.cons (.int _ _) (.cons (.int _ _) .nil))),r1,r2⟩
  simp [execOp,ho,Instr.next,e1,getObj,setObj,Sem.run,Sem.run_bind,hw,hp,goInt]
 ·rename_i hp
  cases hv
  refine .same r (.tuple (.cons (.bool _) .nil)) ?_
  simp [execOp,ho,Instr.next,e1,getObj,Sem.run,Sem.run_bind,hw,hp]
end Go.Ev
namespace Go.Ev
variable {P : Program} {ρ : Ren} {h : H} {a : Act} {w : World} {s : Env} {n : Nat}
def isStr (P : Program) (t : TypeId) : Bool := match P.underlying t with | some .string => true | _ => false
def isU8 (P : Program) (t : TypeId) : Bool := match P.underlying t with | some (.int .u8) => true | _ => false
def ekOf : TypeDesc → Option EK
 | .bool => some .bool
 | .pointer _ => some .ptr
 | .slice _ => some .slice
 | .map _ _ => some .map
 | .func _ _ _ => some .func
 | _ => none
theorem ekOf_fits {d : TypeDesc} {k : EK} (e : ekOf d = some k) : k.fits d = true := by
 cases d <;> simp [ekOf] at e <;> subst e <;> rfl
def isNilLit : Operand → Bool
 | .const .nilIface => true
 | _ => false
theorem nilLit {y : Operand} (h : isNilLit y = true) : y = .const .nilIface := by
 unfold isNilLit at h
 split at h
 ·rfl
 ·cases h
def compBin (P : Program) (op : BinOp) (t : TypeId) (x y : Operand) : Option AOp :=
 match P.underlying t with
 | some (.int _) | some .string => some (.bin op x y)
 | some (.struct _) =>
  if P.eqGuardType P.depth t = false ∧ isRowB P t = some true then
   match op,flatK P 20 t with
   | .eql,some ks => some (.eqAgg false ks x y)
   | .neq,some ks => some (.eqAgg true ks x y)
   | _,_ => none
  else none
 | some (.interface _) => if isNilLit y = true then
   match op with
   | .eql => some (.eqNilI false x)
   | .neq => some (.eqNilI true x)
   | _ => none
  else none
 | some d => match op,ekOf d with
  | .eql,some k => some (.eqNil k false x y)
  | .neq,some k => some (.eqNil k true x y)
  | _,_ => none
 | none => none
def compConv (P : Program) (src dst : TypeId) (x : Operand) : Option AOp :=
 match P.underlying src,P.underlying dst with
 | some (.int _),some (.int k) => some (.conv (.int k) x)
 | some .string,some .string => some (.conv .same x)
 | some .string,some (.slice e) => if isU8 P e = true then some (.conv .toBytes x) else none
 | some (.slice e),some .string => if isU8 P e = true then some (.conv .toString x) else none
 | _,_ => none
def fieldOf (P : Program) (t : TypeId) (i : Nat) : Option Field :=
 match P.underlying t with
 | some (.struct fs) => fs[i]?
 | _ => none
def elOf (P : Program) (t : TypeId) : Option TypeId := match P.underlying t with | some (.slice e) => some e | _ => none
def mapOf (P : Program) (t : TypeId) : Option (TypeId × TypeId) := match P.underlying t with | some (.map k e) => some (k,e) | _ => none
def zeroV (P : Program) (t : TypeId) : Option Value :=
 match (P.info? t).bind (·.zero) with
 | some (.agg ⟨l⟩) => if l.all isKonst = true then some (.agg ⟨l⟩) else none
 | some v => if isKonst v = true then some v else none
 | none => none
def strT (P : Program) (t : TypeId) : Option Bool := (P.underlying t).bind isStrD
def ckT (P : Program) (t : TypeId) : Option CK := (P.underlying t).bind ckOf
def compBuiltin (P : Program) (b : Builtin) (args : List Operand) (ts : List TypeId) : Option AOp :=
 match b,args,ts with
 | .len,[x],[t] => match P.underlying t with
  | some .string => some (.lenStr x)
  | some (.slice _) => some (.lenSlice x)
  | some (.map _ _) => some (.lenMap x)
  | _ => none
 | .append,[d,x],[t,tx] => match elOf P t,strT P tx with
  | some e,some str => match zeroC P e,(P.info? e).map (·.bytes) with
   | some z,some by' => if 0 < by' then some (.append str z.length by' d x) else none
   | _,_ => none
  | _,_ => none
 | .copy,[d,x],[t,tx] => match elOf P t,strT P tx with
  | some e,some str => (szOf P e).map fun q => .copy str q d x
  | _,_ => none
 | .delete,[m,k],[t,_] => match mapOf P t with
  | some (kt,_) => (ckT P kt).map fun ck => .delete ck m k
  | none => none
 | .clear,[x],[t] => match elOf P t with
  | some e => match zeroC P e with
   | some z => if 0 < z.length then some (.clear z x) else none
   | none => none
  | none => none
 | .max,[x,y],_ => some (.minmax true x y)
 | .min,[x,y],_ => some (.minmax false x y)
 | _,_,_ => none
def compOp (P : Program) (o : Op) : Option AOp :=
 match o with
 | .move x | .assign x => some (.mv x)
 | .pick c x y => some (.pick c x y)
 | .alloc t => (zeroC P t).map .alloc
 | .box _ x => some (.box x)
 | .build t ps => match zeroC P t,placesOf P t with
  | some z,some place => (compParts place ps.toList).map fun l => .build z l
  | _,_ => none
 | .buildSlice t len ps => match elOf P t with
  | some e => match zeroC P e with
   | some z1 => if len * z1.length ≤ 2 ^ 24 then
     (compParts (fun i => some (i * z1.length,z1.length)) ps.toList).map fun l => .mkSlice z1.length len ((List.range (len * z1.length)).map fun i => z1.getD (i % z1.length) undef) l
    else none
   | none => none
  | none => none
 | .load t x => match isRowB P t with
  | some false => some (.load1 x)
  | some true => (szOf P t).map fun q => .loadN q x
  | none => none
 | .store t x y => (szOf P t).map fun q => .store q x y
 | .nilCheck x => some (.nilCheck x)
 | .binOp op t x y _ => compBin P op t x y
 | .unOp op _ x => some (.un op x)
 | .convert src dst x => compConv P src dst x
 | .makeFunc fn fs cs => some (.func fn fs.toList cs.toList)
 | .makeMap _ none => some .mkMap
 | .makeSlice t l c => match elOf P t with
  | some e => match zeroC P e,(P.info? e).map (·.bytes) with
   | some z,some by' => if 0 < z.length then some (.makeSlice z.length by' z l c) else none
   | _,_ => none
  | none => none
 | .slice t x lo hi none => match P.underlying t with
  | some (.slice e) => (szOf P e).map fun q => .slice q x lo hi
  | some .string => some (.sliceStr x lo hi)
  | _ => none
 | .fieldAddr t x i => match fieldOf P t i with
  | some f => match szOf P f.type with
   | some (_ + 1) => some (.fieldAddr x f.offset)
   | _ => none
  | none => none
 | .field t x i => match fieldOf P t i with
  | some f => match isRowB P f.type with
   | some true => (szOf P f.type).map fun q => .field x f.offset (some q)
   | some false => some (.field x f.offset none)
   | none => none
  | none => none
 | .indexAddr t x i => match elOf P t with
  | some e => (szOf P e).map fun q => .indexAddr q x i
  | none => match arrOf P t with
   | some p => (szOf P p.2).map fun q => .indexAddrA q p.1 x i
   | none => none
 | .index t x i => if isStr P t = true then some (.indexStr x i) else match arrOf P t with
  | some p => match isRowB P p.2,szOf P p.2 with
   | some row,some q => some (.indexA q p.1 row x i)
   | _,_ => none
  | none => none
 | .makeInterface t x => if isIfaceB P t = false then some (.mkIface t x) else none
 | .range t x => if isStr P t = true then some (.rangeStr x) else none
 | .next x true => some (.nextStr x)
 | .lookup t x k ok => match mapOf P t with
  | some (kt,et) => match ckT P kt,zeroV P et with
   | some ck,some z => some (.lookup ck z x k ok)
   | _,_ => none
  | none => none
 | .mapUpdate t m k v | .insert t m k v => match mapOf P t with
  | some (kt,_) => (ckT P kt).map fun ck => .mapUpd ck m k v
  | none => none
 | .extract x i => some (.extract x i)
 | .call { callee := .builtin b,args,argTypes } => compBuiltin P b args.toList argTypes.toList
 | _ => none
theorem fieldOf_some {t : TypeId} {i : Nat} {f : Field} (e : fieldOf P t i = some f) : ∃ fs,P.underlying t = some (.struct fs) ∧ fs[i]? = some f := by
 unfold fieldOf at e
 split at e
 ·exact ⟨_,by assumption,e⟩
 ·cases e
theorem elOf_some {t e : TypeId} (h : elOf P t = some e) : P.underlying t = some (.slice e) := by
 unfold elOf at h
 split at h
 ·cases h;assumption
 ·cases h
theorem mapOf_some {t : TypeId} {p : TypeId × TypeId} (h : mapOf P t = some p) : P.underlying t = some (.map p.1 p.2) := by
 unfold mapOf at h
 split at h
 ·cases h;assumption
 ·cases h
theorem strT_some {t : TypeId} {b : Bool} (h : strT P t = some b) : ∃ d,P.underlying t = some d ∧ isStrD d = some b := by
 unfold strT at h
 cases hu : P.underlying t with
 | none => rw [hu] at h;cases h
 | some d => rw [hu] at h;exact ⟨d,rfl,h⟩
theorem ckT_some {t : TypeId} {b : CK} (h : ckT P t = some b) : ∃ d,P.underlying t = some d ∧ ckOf d = some b := by
 unfold ckT at h
 cases hu : P.underlying t with
 | none => rw [hu] at h;cases h
 | some d => rw [hu] at h;exact ⟨d,rfl,h⟩
theorem isU8_some {t : TypeId} (h : isU8 P t = true) : P.underlying t = some (.int .u8) := by
 unfold isU8 at h
 split at h
 ·assumption
 ·cases h
theorem zeroV_run {t : TypeId} {z : Value} (e : zeroV P t = some z) : (∀ w,(zeroValue t).run P w = .ok z w) ∧ ∀ ρ,VR ρ z z := by
 unfold zeroV at e
 cases hi : P.info? t with
 | none => rw [hi] at e;simp at e
 | some i =>
  rw [hi] at e
  cases hz : i.zero with
  | none => simp [hz] at e
  | some q =>
   have hrun : ∀ w,(zeroValue t).run P w = .ok q w := fun w => by simp [zeroValue,typeInfo,hi,hz]
   simp only [Option.bind_some,hz] at e
   split at e
   ·rename_i l hq
    cases hq
    split at e
    ·cases e
     exact ⟨hrun,fun ρ => .agg (VRs.konst (by assumption))⟩
    ·cases e
   ·rename_i v _ hq
    cases hq
    split at e
    ·cases e
     exact ⟨hrun,fun ρ => VR.konst (by assumption)⟩
    ·cases e
   ·cases ‹_ = none›
theorem partsOf_none {l : List (Nat × Nat × Operand)} {z : List Value} {f : List Value → Value × H} {v : Value} {h' : H} (e : (match partsOf s l with
  | some q => (fillL z q).map f
  | none => none) = some (v,h')) : ∃ q c,partsOf s l = some q ∧ fillL z q = some c ∧ f c = (v,h') := by
 cases h1 : partsOf s l with
 | none => rw [h1] at e;cases e
 | some q =>
  rw [h1] at e
  cases h2 : fillL z q with
  | none => simp [h2] at e
  | some c => simp [h2] at e;exact ⟨q,c,rfl,h2,e⟩
theorem list_arr {α : Type} {x : Array α} {l : List α} (h : x.toList = l) : x = l.toArray := by cases x;simp at h;subst h;rfl
set_option maxHeartbeats 4000000 in
theorem evBuiltin_sound (o : Oper) (c : Call) (hop : o.op = .call c) {ao : AOp} (hc : compOp P o.op = some ao) (r : Rel ρ h w) (he : EnvRel ρ n s a.tmps) {v : Value} {h' : H} (e : evOp ao s h = some (v,h')) : Good P o ρ h a w v h' := by
 rw [hop] at hc
 obtain ⟨callee,args,ts⟩ := c
 cases callee with
 | value f => simp [compOp] at hc
 | invoke x m => simp [compOp] at hc
 | builtin b =>
  simp only [compOp] at hc
  unfold compBuiltin at hc
  split at hc
  ·
   rename_i x t ha ht'
   obtain rfl := list_arr ha
   obtain rfl := list_arr ht'
   split at hc
   ·rename_i ht
    cases hc
    simp only [evOp] at e
    split at e
    ·rename_i b hx
     cases e
     exact good_lenStr o x t hop ht r he hx
    ·cases e
   ·rename_i el ht
    cases hc
    exact good_lenSlice o x t el hop ht r he e
   ·rename_i k q ht
    cases hc
    obtain ⟨m,hm,hf⟩ := Option.map_eq_some_iff.1 e
    cases hf
    exact good_lenMap o x t k q hop ht r he hm
   ·cases hc
  ·
   rename_i d x t tx ha ht'
   obtain rfl := list_arr ha
   obtain rfl := list_arr ht'
   split at hc
   ·rename_i el str hel hstr
    split at hc
    ·rename_i z by' hz hb
     split at hc
     ·rename_i hb0
      cases hc
      obtain ⟨dd,hdd,hsd⟩ := strT_some hstr
      simp only [evOp] at e
      split at e
      ·rename_i htext
       split at e
       ·rename_i m new hsrc
        split at e
        ·rename_i h1
         exact good_append o t tx 0 el d x hop (elOf_some hel) hz hb hb0 hdd r he (srcKind_of hsd htext) hsrc h1 e
        ·cases e
       ·cases e
      ·cases e
     ·cases hc
    ·cases hc
   ·cases hc
  ·
   rename_i d x t tx ha ht'
   obtain rfl := list_arr ha
   obtain rfl := list_arr ht'
   split at hc
   ·rename_i el str hel hstr
    obtain ⟨q,hq,hf⟩ := Option.map_eq_some_iff.1 hc
    cases hf
    obtain ⟨dd,hdd,hsd⟩ := strT_some hstr
    have xd := aeval_sound he d
    simp only [evOp] at e
    split at e
    ·rename_i htext
     split at e
     ·rename_i p hd hsrc
      cases e
      rw [hd] at xd
      obtain ⟨_,_,e1⟩ := xd.snil_inv
      exact good_copyNil o t tx el d x hop (elOf_some hel) hq hdd r he (srcKind_of hsd htext) hsrc ⟨none,0,e1⟩ rfl (by simp)
     ·rename_i b oo m c k new hd hsrc
      split at e
      ·rename_i h0
       cases e
       rw [hd] at xd
       obtain ⟨i,o',c',_,e1,_⟩ := xd.slice_inv
       exact good_copyNil o t tx el d x hop (elOf_some hel) hq hdd r he (srcKind_of hsd htext) hsrc ⟨_,_,e1⟩ rfl h0
      ·rename_i h0
       split at e
       ·rename_i h1
        obtain ⟨h2,hw,hf⟩ := Option.map_eq_some_iff.1 e
        cases hf
        exact good_copy o t tx el d x hop (elOf_some hel) hq hdd r he (srcKind_of hsd htext) hsrc h1 hd hw h0
       ·cases e
     ·cases e
    ·cases e
   ·cases hc
  ·
   rename_i m k t tk ha ht'
   obtain rfl := list_arr ha
   obtain rfl := list_arr ht'
   split at hc
   ·rename_i kt et hm
    have ht := mapOf_some hm
    obtain ⟨ck,hck,hf⟩ := Option.map_eq_some_iff.1 hc
    cases hf
    obtain ⟨kd,hkd,hcd⟩ := ckT_some hck
    simp only [evOp] at e
    split at e
    ·rename_i hx
     split at e
     ·rename_i hkey
      cases e
      exact good_deleteNil o t kt et tk m k hop ht hkd r he hx hkey (keyKind_of hcd hkey)
     ·cases e
    ·rename_i b hx
     split at e
     ·rename_i es hb
      split at e
      ·rename_i hkey
       split at e
       ·rename_i i u hf
        cases e
        exact good_delete o t kt et tk m k hop ht hkd r he hx hb hkey (keyKind_of hcd hkey) hf rfl
       ·rename_i hf
        cases e
        exact good_delete o t kt et tk m k hop ht hkd r he hx hb hkey (keyKind_of hcd hkey) hf rfl
       ·cases e
      ·cases e
     ·cases e
    ·cases e
   ·cases hc
  ·
   rename_i x t ha ht'
   obtain rfl := list_arr ha
   obtain rfl := list_arr ht'
   split at hc
   ·rename_i el hel
    split at hc
    ·rename_i z hz
     split at hc
     ·rename_i hz0
      cases hc
      have xd := aeval_sound he x
      simp only [evOp] at e
      split at e
      ·rename_i hx
       cases e
       rw [hx] at xd
       obtain ⟨_,_,e1⟩ := xd.snil_inv
       exact good_clearNone o t el x hop (elOf_some hel) r ⟨none,0,e1⟩
      ·rename_i b oo m c hx
       split at e
       ·rename_i h0
        cases e
        rw [hx] at xd
        obtain ⟨i,o',c',_,e1,_⟩ := xd.slice_inv
        subst h0
        exact good_clearNone o t el x hop (elOf_some hel) r ⟨_,_,e1⟩
       ·rename_i h0
        obtain ⟨h2,hw,hf⟩ := Option.map_eq_some_iff.1 e
        cases hf
        exact good_clear o t el x hop (elOf_some hel) hz hz0 r he hx h0 hw
      ·cases e
     ·cases hc
    ·cases hc
   ·cases hc
  ·rename_i _ x y ha
   obtain rfl := list_arr ha
   cases hc
   simp only [evOp] at e
   split at e
   ·rename_i k i k' j hx hy
    split at e
    ·rename_i hk;subst hk
     cases e
     exact good_minmax o x y ts true hop r he hx hy
    ·cases e
   ·cases e
  ·rename_i _ x y ha
   obtain rfl := list_arr ha
   cases hc
   simp only [evOp] at e
   split at e
   ·rename_i k i k' j hx hy
    split at e
    ·rename_i hk;subst hk
     cases e
     exact good_minmax o x y ts false hop r he hx hy
    ·cases e
   ·cases e
  ·cases hc
set_option maxHeartbeats 4000000 in
theorem evOp_sound (o : Oper) {ao : AOp} (hc : compOp P o.op = some ao) (r : Rel ρ h w) (he : EnvRel ρ n s a.tmps) {v : Value} {h' : H} (e : evOp ao s h = some (v,h')) : Good P o ρ h a w v h' := by
 cases hop : o.op with
 | move x =>
  rw [hop] at hc;simp [compOp] at hc;subst hc
  simp [evOp] at e;obtain ⟨rfl,rfl⟩ := e
  exact good_move o x (.inl hop) r he
 | assign x =>
  rw [hop] at hc;simp [compOp] at hc;subst hc
  simp [evOp] at e;obtain ⟨rfl,rfl⟩ := e
  exact good_move o x (.inr hop) r he
 | pick c x y =>
  rw [hop] at hc;simp [compOp] at hc;subst hc
  simp only [evOp] at e
  split at e
  ·rename_i t ht
   simp at e;obtain ⟨rfl,rfl⟩ := e
   exact good_pick o c x y hop r he ht
  ·cases e
 | alloc t =>
  rw [hop] at hc;simp [compOp] at hc
  obtain ⟨z,hz,rfl⟩ := hc
  simp [evOp] at e;obtain ⟨rfl,rfl⟩ := e
  exact good_alloc o t hop hz r
 | box t x =>
  rw [hop] at hc;simp [compOp] at hc;subst hc
  obtain ⟨l,hl,hf⟩ := Option.map_eq_some_iff.1 e
  cases hf
  exact good_box o t x hop r he hl
 | build t ps =>
  rw [hop] at hc;simp only [compOp] at hc
  split at hc
  ·rename_i z place hz hp
   simp at hc
   obtain ⟨l,hl,rfl⟩ := hc
   simp only [evOp] at e
   obtain ⟨q,c,g1,g2,g3⟩ := partsOf_none e
   simp at g3;obtain ⟨rfl,rfl⟩ := g3
   exact good_build o t ps hop hz hp hl r he g1 g2
  ·cases hc
 | buildSlice t len ps =>
  rw [hop] at hc;simp only [compOp] at hc
  split at hc
  ·rename_i el hel
   split at hc
   ·rename_i z1 hz
    split at hc
    ·rename_i hsm
     simp at hc
     obtain ⟨l,hl,rfl⟩ := hc
     simp only [evOp] at e
     obtain ⟨q,c,g1,g2,g3⟩ := partsOf_none e
     simp at g3;obtain ⟨rfl,rfl⟩ := g3
     exact good_mkSlice o t el len ps hop (elOf_some hel) hz hsm hl rfl r he g1 g2
    ·cases hc
   ·cases hc
  ·cases hc
 | load t x =>
  rw [hop] at hc;simp only [compOp] at hc
  split at hc
  ·rename_i hb
   cases hc
   simp only [evOp] at e
   split at e
   ·rename_i b q hx
    cases hl : (rd h b q 1).bind one? with
    | none => rw [hl] at e;cases e
    | some u => rw [hl] at e;simp at e;obtain ⟨rfl,rfl⟩ := e;exact good_load1 o t x hop hb r he hx hl
   ·cases e
  ·rename_i hb
   simp at hc
   obtain ⟨m,hm,rfl⟩ := hc
   simp only [evOp] at e
   split at e
   ·rename_i b q hx
    obtain ⟨l,hl,hf⟩ := Option.map_eq_some_iff.1 e
    cases hf
    exact good_loadN o t x hop hb hm r he hx hl
   ·cases e
  ·cases hc
 | store t x y =>
  rw [hop] at hc;simp [compOp] at hc
  obtain ⟨m,hm,rfl⟩ := hc
  simp only [evOp] at e
  split at e
  ·rename_i b q l hx hl
   split at e
   ·rename_i hlen
    obtain ⟨h2,hw,hf⟩ := Option.map_eq_some_iff.1 e
    cases hf
    exact good_store o t x y hop hm r he hx hl hlen hw
   ·cases e
  ·cases e
 | nilCheck x =>
  rw [hop] at hc;simp [compOp] at hc;subst hc
  exact good_nilCheck o x hop r he e
 | binOp op t x y ty =>
  rw [hop] at hc;simp only [compOp,compBin] at hc
  split at hc
  ·cases hc
   obtain ⟨q,hq,hf⟩ := Option.map_eq_some_iff.1 e
   cases hf
   exact good_bin o op t ty x y hop r he hq
  ·cases hc
   obtain ⟨q,hq,hf⟩ := Option.map_eq_some_iff.1 e
   cases hf
   exact good_bin o op t ty x y hop r he hq
  ·split at hc
   ·rename_i hg
    split at hc
    ·rename_i ks hk
     cases hc
     simp only [evOp] at e
     split at e
     ·rename_i u u' hu hu'
      obtain ⟨q,hq,hf⟩ := Option.map_eq_some_iff.1 e
      cases hf
      exact good_eqAgg o false t ty x y hop hk hg.1 r he hu hu' hq hg.2
     ·cases e
    ·rename_i ks hk
     cases hc
     simp only [evOp] at e
     split at e
     ·rename_i u u' hu hu'
      obtain ⟨q,hq,hf⟩ := Option.map_eq_some_iff.1 e
      cases hf
      exact good_eqAgg o true t ty x y hop hk hg.1 r he hu hu' hq hg.2
     ·cases e
    ·cases hc
   ·cases hc
  ·rename_i ms hd
   split at hc
   ·rename_i hn
    have hy := nilLit hn
    subst hy
    split at hc
    ·cases hc
     obtain ⟨q,hq,hf⟩ := Option.map_eq_some_iff.1 e
     cases hf
     exact good_eqNilI o false t ty x hop hd r he hq
    ·cases hc
     obtain ⟨q,hq,hf⟩ := Option.map_eq_some_iff.1 e
     cases hf
     exact good_eqNilI o true t ty x hop hd r he hq
    ·cases hc
   ·cases hc
  ·rename_i d _ _ _ _ hd
   split at hc
   ·rename_i k hk
    cases hc
    obtain ⟨q,hq,hf⟩ := Option.map_eq_some_iff.1 e
    cases hf
    exact good_eqNil o false t ty x y hop hd (ekOf_fits hk) r he hq
   ·rename_i k hk
    cases hc
    obtain ⟨q,hq,hf⟩ := Option.map_eq_some_iff.1 e
    cases hf
    exact good_eqNil o true t ty x y hop hd (ekOf_fits hk) r he hq
   ·cases hc
  ·cases hc
 | unOp op t x =>
  rw [hop] at hc;simp [compOp] at hc;subst hc
  obtain ⟨q,hq,hf⟩ := Option.map_eq_some_iff.1 e
  cases hf
  exact good_un o op t x hop r he hq
 | convert src dst x =>
  rw [hop] at hc;simp only [compOp,compConv] at hc
  split at hc
  ·rename_i hs hd
   cases hc
   cases hx : aeval s x <;> simp [evOp,hx] at e
   obtain ⟨rfl,rfl⟩ := e
   exact good_convInt o src dst x hop hs hd r he hx
  ·rename_i hs hd
   cases hc
   cases hx : aeval s x <;> simp [evOp,hx] at e
   obtain ⟨rfl,rfl⟩ := e
   exact good_convSame o src dst x hop hs hd rfl r he hx
  ·rename_i el hs hd
   split at hc
   ·rename_i hu
    cases hc
    cases hx : aeval s x <;> simp [evOp,hx] at e
    obtain ⟨rfl,rfl⟩ := e
    exact good_toBytes o src dst el x hop hs hd (isU8_some hu) r he hx
   ·cases hc
  ·rename_i el hs hd
   split at hc
   ·rename_i hu
    cases hc
    exact good_toString o src dst el x hop hs (isU8_some hu) hd r he e
   ·cases hc
  ·cases hc
 | makeFunc fn fs cs =>
  rw [hop] at hc;simp [compOp] at hc;subst hc
  simp [evOp] at e;obtain ⟨rfl,rfl⟩ := e
  have := good_func (P := P) (h := h) (w := w) o fn fs cs hop r he
  simpa using this
 | makeMap t q =>
  rw [hop] at hc
  cases q with
  | none =>
   simp [compOp] at hc;subst hc
   simp [evOp] at e;obtain ⟨rfl,rfl⟩ := e
   exact good_mkMap o t hop r
  | some q => simp [compOp] at hc
 | makeSlice t l c =>
  rw [hop] at hc;simp only [compOp] at hc
  split at hc
  ·rename_i el hel
   split at hc
   ·rename_i z by' hz hb
    split at hc
    ·rename_i hz0
     cases hc
     simp only [evOp] at e
     split at e
     ·rename_i i j hi hj
      split at e
      ·rename_i hcond
       cases e
       exact good_makeSlice o t el l c hop (elOf_some hel) hz hz0 hb r he hi hj hcond.1 hcond.2.1 hcond.2.2.1 hcond.2.2.2.1
      ·cases e
     ·cases e
    ·cases hc
   ·cases hc
  ·cases hc
 | slice t x lo hi mx =>
  rw [hop] at hc
  cases mx with
  | some q => simp [compOp] at hc
  | none =>
   simp only [compOp] at hc
   split at hc
   ·rename_i el hel
    obtain ⟨q,hq,hf⟩ := Option.map_eq_some_iff.1 hc
    cases hf
    simp only [evOp] at e
    split at e
    ·rename_i hx
     split at e
     ·rename_i z hz
      split at e
      ·rename_i p hp
       split at e
       ·rename_i hcond
        cases e
        exact good_sliceNil o t x lo hi hop hel hq r he hx hz hp hcond.1 hcond.2
       ·cases e
      ·cases e
     ·cases e
    ·rename_i b oo m c hx
     split at e
     ·rename_i z hz
      split at e
      ·rename_i p hp
       split at e
       ·rename_i hcond
        cases e
        exact good_slice o t x lo hi hop hel hq r he hx hz hp hcond.1 hcond.2
       ·cases e
      ·cases e
     ·cases e
    ·cases e
   ·rename_i hel
    cases hc
    simp only [evOp] at e
    split at e
    ·rename_i b hx
     split at e
     ·rename_i z hz
      split at e
      ·rename_i p hp
       split at e
       ·rename_i hcond
        cases e
        exact good_sliceStr o t x lo hi hop hel r he hx hz hp hcond.1 hcond.2
       ·cases e
      ·cases e
     ·cases e
    ·cases e
   ·cases hc
 | fieldAddr t x i =>
  rw [hop] at hc;simp only [compOp] at hc
  split at hc
  ·rename_i f hf
   obtain ⟨fs,h1,h2⟩ := fieldOf_some hf
   split at hc
   ·rename_i m hm
    cases hc
    simp only [evOp] at e
    split at e
    ·rename_i b q hx
     cases e
     exact good_fieldAddr o t x i hop h1 h2 hm r he hx
    ·cases e
   ·cases hc
  ·cases hc
 | field t x i =>
  rw [hop] at hc;simp only [compOp] at hc
  split at hc
  ·rename_i f hf
   obtain ⟨fs,h1,h2⟩ := fieldOf_some hf
   split at hc
   ·rename_i hb
    obtain ⟨q,hq,hff⟩ := Option.map_eq_some_iff.1 hc
    cases hff
    simp only [evOp] at e
    split at e
    ·rename_i l hx
     cases e
     exact good_fieldRow o t x i hop h1 h2 hb hq r he hx
    ·cases e
   ·rename_i hb
    cases hc
    simp only [evOp] at e
    split at e
    ·rename_i l hx
     obtain ⟨q,hq,hff⟩ := Option.map_eq_some_iff.1 e
     cases hff
     exact good_fieldCell o t x i hop h1 h2 hb r he hx hq
    ·cases e
   ·cases hc
  ·cases hc
 | indexAddr t x i =>
  rw [hop] at hc;simp only [compOp] at hc
  split at hc
  ·rename_i el hel
   obtain ⟨q,hq,hf⟩ := Option.map_eq_some_iff.1 hc
   cases hf
   simp only [evOp] at e
   split at e
   ·rename_i b oo m c k j hx hi
    split at e
    ·rename_i hcond
     cases e
     exact good_indexAddr o t x i hop (elOf_some hel) hq r he hx hi hcond.1 hcond.2
    ·cases e
   ·cases e
  ·split at hc
   ·rename_i q hp
    obtain ⟨z,hz,hf⟩ := Option.map_eq_some_iff.1 hc
    cases hf
    simp only [evOp] at e
    split at e
    ·rename_i b oo k j hx hi
     split at e
     ·rename_i hcond
      cases e
      exact good_indexAddrA o t x i hop (arrOf_some hp) hz r he hx hi hcond.1 hcond.2
     ·cases e
    ·cases e
   ·cases hc
 | index t x i =>
  rw [hop] at hc;simp only [compOp] at hc
  split at hc
  ·rename_i hs
   cases hc
   have ht : P.underlying t = some .string := by
    unfold isStr at hs
    split at hs
    ·assumption
    ·cases hs
   simp only [evOp] at e
   split at e
   ·rename_i b k j hx hi
    split at e
    ·rename_i h0
     obtain ⟨q,hq,hf⟩ := Option.map_eq_some_iff.1 e
     cases hf
     exact good_indexStr o t x i hop ht r he hx hi h0 hq
    ·cases e
   ·cases e
  ·split at hc
   ·rename_i q hp
    split at hc
    ·rename_i row z hrow hz
     cases hc
     simp only [evOp] at e
     split at e
     ·rename_i l k j hx hi
      split at e
      ·rename_i hcond
       cases row with
       | true =>
        simp at e;obtain ⟨rfl,rfl⟩ := e
        exact good_indexRow o t x i hop (arrOf_some hp) hrow hz r he hx hi hcond.1 hcond.2
       | false =>
        simp only [Bool.false_eq_true,if_false] at e
        obtain ⟨u,hu,hf⟩ := Option.map_eq_some_iff.1 e
        cases hf
        exact good_indexCell o t x i hop (arrOf_some hp) hrow hz r he hx hi hcond.1 hcond.2 hu
      ·cases e
     ·cases e
    ·cases hc
   ·cases hc
 | makeInterface t x =>
  rw [hop] at hc;simp only [compOp] at hc
  split at hc
  ·rename_i ht
   cases hc
   simp [evOp] at e;obtain ⟨rfl,rfl⟩ := e
   exact good_mkIface o t x hop ht r he
  ·cases hc
 | range t x =>
  rw [hop] at hc;simp only [compOp] at hc
  split at hc
  ·rename_i hs
   cases hc
   have ht : P.underlying t = some .string := by
    unfold isStr at hs
    split at hs
    ·assumption
    ·cases hs
   simp only [evOp] at e
   split at e
   ·rename_i q hq
    cases e
    exact good_rangeStr o t x hop ht r he hq
   ·cases e
  ·cases hc
 | next x b =>
  rw [hop] at hc
  cases b with
  | false => simp [compOp] at hc
  | true =>
   simp only [compOp] at hc
   cases hc
   simp only [evOp] at e
   split at e
   ·rename_i b hx
    split at e
    ·rename_i q p hb
     exact good_nextStr o x hop r he hx hb e
    ·cases e
   ·cases e
 | lookup t x k ok =>
  rw [hop] at hc;simp only [compOp] at hc
  split at hc
  ·rename_i kt et hm
   have ht := mapOf_some hm
   split at hc
   ·rename_i ck z hck hz
    cases hc
    obtain ⟨kd,hkd,hcd⟩ := ckT_some hck
    obtain ⟨z1,z2⟩ := zeroV_run hz
    simp only [evOp] at e
    split at e
    ·rename_i es hes
     split at e
     ·rename_i hkey
      split at e
      ·rename_i i u hf
       cases e
       exact good_lookup o t kt et x k ok hop ht hkd z1 (z2 _) r he hes hkey (keyKind_of hcd hkey) hf rfl
      ·rename_i hf
       cases e
       exact good_lookup o t kt et x k ok hop ht hkd z1 (z2 _) r he hes hkey (keyKind_of hcd hkey) hf rfl
      ·cases e
     ·cases e
    ·cases e
   ·cases hc
  ·cases hc
 | mapUpdate t m k y =>
  rw [hop] at hc;simp only [compOp] at hc
  split at hc
  ·rename_i kt et hm
   have ht := mapOf_some hm
   obtain ⟨ck,hck,hf⟩ := Option.map_eq_some_iff.1 hc
   cases hf
   obtain ⟨kd,hkd,hcd⟩ := ckT_some hck
   simp only [evOp] at e
   split at e
   ·rename_i b hx
    split at e
    ·rename_i es hb
     split at e
     ·rename_i hkey
      split at e
      ·rename_i i u hf
       cases e
       exact good_mapUpd o t kt et m k y (.inl hop) ht hkd r he hx hb hkey (keyKind_of hcd hkey) hf rfl
      ·rename_i hf
       cases e
       exact good_mapUpd o t kt et m k y (.inl hop) ht hkd r he hx hb hkey (keyKind_of hcd hkey) hf rfl
      ·cases e
     ·cases e
    ·cases e
   ·cases e
  ·cases hc
 | insert t m k y =>
  rw [hop] at hc;simp only [compOp] at hc
  split at hc
  ·rename_i kt et hm
   have ht := mapOf_some hm
   obtain ⟨ck,hck,hf⟩ := Option.map_eq_some_iff.1 hc
   cases hf
   obtain ⟨kd,hkd,hcd⟩ := ckT_some hck
   simp only [evOp] at e
   split at e
   ·rename_i b hx
    split at e
    ·rename_i es hb
     split at e
     ·rename_i hkey
      split at e
      ·rename_i i u hf
       cases e
       exact good_mapUpd o t kt et m k y (.inr hop) ht hkd r he hx hb hkey (keyKind_of hcd hkey) hf rfl
      ·rename_i hf
       cases e
       exact good_mapUpd o t kt et m k y (.inr hop) ht hkd r he hx hb hkey (keyKind_of hcd hkey) hf rfl
      ·cases e
     ·cases e
    ·cases e
   ·cases e
  ·cases hc
 | extract x i =>
  rw [hop] at hc;simp [compOp] at hc;subst hc
  simp only [evOp] at e
  split at e
  ·rename_i l hx
   obtain ⟨q,hq,hf⟩ := Option.map_eq_some_iff.1 e
   cases hf
   exact good_extract o x i hop r he hx hq
  ·cases e
 | call c => exact evBuiltin_sound o c hop hc r he e
 | _ => rw [hop] at hc;simp [compOp] at hc
end Go.Ev
