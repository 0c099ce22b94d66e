/- Texts of the proofs over heraldlaw20, put together by a program (merge20.py): Ev7. -/
import Derived.Test.YtalamcchkkdelaaGreatDoorC3
import Derived.Laws.Tables
import Derived.Great.BuildSlice
import Derived.Laws.MakeOwn
set_option linter.unusedVariables false
set_option linter.unusedSimpArgs false
namespace Go.Ev
variable {P : Program} {ρ : Ren} {h : H} {a : Act} {w : World} {s : Env} {n : Nat}
def placesOf (P : Program) (t : TypeId) : Option (Nat → Option (Nat × Nat)) :=
 match P.underlying t with
 | some (.struct fields) => (fields.toList.mapM fun f => (P.info? f.type).map fun i => (f.offset,i.size)).map fun l => fun i => l[i]?
 | some (.array _ e) => (szOf P e).map fun q => fun i => some (i * q,q)
 | _ => none
def compParts (place : Nat → Option (Nat × Nat)) : List (Nat × Operand) → Option (List (Nat × Nat × Operand))
 | [] => some []
 | (i,x) :: r =>
  match place i,compParts place r with
  | some (o,q),some l => some ((o,q,x) :: l)
  | _,_ => none
theorem compParts_get {place : Nat → Option (Nat × Nat)} : ∀ {ps : List (Nat × Operand)} {l : List (Nat × Nat × Operand)},compParts place ps = some l →
  l.length = ps.length ∧ ∀ (k : Nat) (q : Nat × Operand) (p : Nat × Nat × Operand),ps[k]? = some q → l[k]? = some p → place q.1 = some (p.1,p.2.1) ∧ p.2.2 = q.2
 | [],l,e => by simp [compParts] at e;subst e;exact ⟨rfl,fun k q p h1 _ => by simp at h1⟩
 | (i,x) :: r,l,e => by
  unfold compParts at e
  cases h1 : place i with
  | none => rw [h1] at e;simp at e
  | some oq =>
   cases h2 : compParts place r with
   | none => rw [h1,h2] at e;simp at e
   | some l2 =>
    rw [h1,h2] at e;cases e
    obtain ⟨g1,g2⟩ := compParts_get h2
    refine ⟨by simp [g1],fun k q p h3 h4 => ?_⟩
    cases k with
    | zero => simp at h3 h4;subst h3;subst h4;exact ⟨h1,rfl⟩
    | succ k => exact g2 k q p (by simpa using h3) (by simpa using h4)
theorem fill_parts (he : EnvRel ρ n s a.tmps) {place : Nat → Option (Nat × Nat)} {ps : List (Nat × Operand)} {l : List (Nat × Nat × Operand)} (hc : compParts place ps = some l) {vs : List (Nat × List Value)} (hv : partsOf s l = some vs)
  {z c : List Value} {z' : Array Value} (hz : VRs ρ z z'.toList) (e : fillL z vs = some c) :
  ∃ c' : Array Value,Instr.fill place z' (ps.map fun (i,x) => (i,a.eval x)) = some c' ∧ VRs ρ c c'.toList := by
 obtain ⟨g1,g2⟩ := compParts_get hc
 obtain ⟨g3,g4⟩ := partsOf_sound he hv
 refine fill_sound e hz (by simp;omega) (fun k p q h1 h2 => ?_)
 have hk : k < ps.length := by
  have := (List.getElem?_eq_some_iff.1 h2).1
  simpa using this
 have hkl : k < l.length := by omega
 have h2' : q = (ps[k].1,a.eval ps[k].2) := by
  simp [hk] at h2;exact h2.symm
 obtain ⟨f1,f2⟩ := g2 k ps[k] l[k] (by simp [hk]) (by simp [hkl])
 obtain ⟨f3,f4,f5⟩ := g4 k p l[k] h1 (by simp [hkl])
 subst h2'
 refine ⟨by rw [f1,f3,f4],?_⟩
 rw [← f2];exact f5
theorem good_build (o : Oper) (t : TypeId) (parts : Array (Nat × Operand)) (ho : o.op = .build t parts) {z : List Value} (hz : zeroC P t = some z) {place : Nat → Option (Nat × Nat)} (hp : placesOf P t = some place) {l : List (Nat × Nat × Operand)}
  (hc : compParts place parts.toList = some l) (r : Rel ρ h w) (he : EnvRel ρ n s a.tmps) {vs : List (Nat × List Value)} (hv : partsOf s l = some vs) {c : List Value} (e : fillL z vs = some c) : Good P o ρ h a w (.agg ⟨c⟩) h := by
 obtain ⟨zv,g1,g2,g3,_⟩ := zeroC_run hz
 obtain ⟨c',f1,f2⟩ := fill_parts (z' := zv.cells) he hc hv (by rw [g2];exact VRs.konst g3) e
 have hb : P.built t (parts.toList.map fun (i,x) => (i,a.eval x)) = some c' := by
  have hi : ∃ it,P.info? t = some it ∧ it.zero = some zv := by
   have := g1 w
   unfold zeroC at hz
   cases hi : P.info? t with
   | none => rw [hi] at hz;cases hz
   | some it =>
    rw [hi] at hz
    cases hzz : it.zero with
    | none => simp [hzz] at hz
    | some q => simp [zeroValue,typeInfo,hi,hzz] at this;subst this;exact ⟨it,rfl,hzz⟩
  obtain ⟨it,hi,hiz⟩ := hi
  unfold placesOf at hp
  unfold Program.built
  rw [hi]
  cases hu : P.underlying t with
  | none => rw [hu] at hp;cases hp
  | some d =>
   rw [hu] at hp
   cases d <;> simp at hp
   case array m el =>
    obtain ⟨q,hq,rfl⟩ := hp
    unfold szOf at hq
    cases hie : P.info? el with
    | none => rw [hie] at hq;cases hq
    | some ie => rw [hie] at hq;cases hq;simpa [hiz,hie] using f1
   case struct fields =>
    obtain ⟨l2,hl2,rfl⟩ := hp
    simpa [hiz,hl2] using f1
 have hrun := run_build (P := P) w t (parts.map fun (i,x) => (i,a.eval x)) c' (by simpa using hb)
 have hcc : c' = ⟨c'.toList⟩ := rfl
 rw [hcc] at hrun
 exact .same r (.agg f2) (by simp [execOp,ho,hrun])
theorem mkSlice_run (o : Oper) (t el : TypeId) (len : Nat) (parts : Array (Nat × Operand)) (ho : o.op = .buildSlice t len parts) (ht : P.underlying t = some (.slice el)) {z1 : List Value} (hz : zeroC P el = some z1) (hsm : len * z1.length ≤ 2 ^ 24)
  {l : List (Nat × Nat × Operand)} (hc : compParts (fun i => some (i * z1.length,z1.length)) parts.toList = some l) {z : List Value} (hzz : z = (List.range (len * z1.length)).map fun i => z1.getD (i % z1.length) undef) (he : EnvRel ρ n s a.tmps)
  {vs : List (Nat × List Value)} (hv : partsOf s l = some vs) {c : List Value} (e : fillL z vs = some c) :
  ∃ c' : Array Value,VRs ρ c c'.toList ∧ (execOp a.eval o).run P w = .ok (.value (.slice (some ⟨w.heap.size,0,none⟩) len len)) (w.alloc (.cells c' el)) := by
 obtain ⟨zv,g1,g2,g3,g4⟩ := zeroC_run hz
 have hin : z.all isKonst = true := by
  subst hzz
  rw [List.all_eq_true]
  intro v hvm
  obtain ⟨i,hi,rfl⟩ := List.mem_map.1 hvm
  have hi' : i < len * z1.length := by simpa using hi
  have hpos : 0 < z1.length := Nat.pos_of_ne_zero (fun e0 => by rw [e0] at hi';simp at hi')
  have hlt : i % z1.length < z1.length := Nat.mod_lt _ hpos
  rw [List.getD_eq_getElem?_getD,List.getElem?_eq_getElem hlt]
  exact (List.all_eq_true.1 g3) _ (List.getElem_mem _)
 have hzs : ((Array.range (len * z1.length)).map (zv.cells[· % zv.cells.size]!)).toList = z := by
  subst hzz
  rw [Array.toList_map,Array.toList_range]
  apply List.map_congr_left
  intro i hi
  have hi' : i < len * z1.length := by simpa using hi
  have hpos : 0 < z1.length := Nat.pos_of_ne_zero (fun e0 => by rw [e0] at hi';simp at hi')
  have hlt : i % z1.length < z1.length := Nat.mod_lt _ hpos
  have hsz : zv.cells.size = z1.length := by rw [← g2];simp
  rw [hsz,getElem!_pos zv.cells _ (by omega),List.getD_eq_getElem?_getD,List.getElem?_eq_getElem hlt]
  simp [← g2]
 obtain ⟨c',f1,f2⟩ := fill_parts (z' := (Array.range (len * z1.length)).map (zv.cells[· % zv.cells.size]!)) he hc hv (by rw [hzs];exact VRs.konst hin) e
 refine ⟨c',f2,?_⟩
 have f3 : Instr.fill (fun i => some (i * z1.length,z1.length)) ((Array.range (len * z1.length)).map (zv.cells[· % zv.cells.size]!)) (parts.toList.map fun x => (x.fst,a.eval x.snd)) = some c' := f1
 have hsm' : ¬ (len * z1.length > 2 ^ 24) := by omega
 by_cases hzero : len * z1.length = 0
 ·have f4 : Instr.fill (fun i => some (i * z1.length,z1.length)) ((Array.range (len * z1.length)).map (fun i => (#[] : Array Value)[i % (#[] : Array Value).size]!)) (parts.toList.map fun x => (x.fst,a.eval x.snd)) = some c' := by
   have hr : Array.range 0 = #[] := by apply Array.ext';simp
   rw [← f3,hzero,hr];simp
  simp only [execOp,ho,Instr.buildSlice,Sem.run_bind,run_underlying ht,Result.andThen_ok,run_sizeOf' (w := w) g4,if_neg hsm',if_pos hzero,Sem.run_pure]
  simp only [Array.toList_map]
  rw [f4]
  simp [Go.newRow,newObj,Sem.run]
 ·simp only [execOp,ho,Instr.buildSlice,Sem.run_bind,run_underlying ht,Result.andThen_ok,run_sizeOf' (w := w) g4,if_neg hsm',if_neg hzero,Sem.run_pure,g1]
  simp only [Array.toList_map]
  rw [f3]
  simp [Go.newRow,newObj,Sem.run]
theorem good_mkSlice (o : Oper) (t el : TypeId) (len : Nat) (parts : Array (Nat × Operand)) (ho : o.op = .buildSlice t len parts) (ht : P.underlying t = some (.slice el)) {z1 : List Value} (hz : zeroC P el = some z1) (hsm : len * z1.length ≤ 2 ^ 24)
  {l : List (Nat × Nat × Operand)} (hc : compParts (fun i => some (i * z1.length,z1.length)) parts.toList = some l) {z : List Value} (hzz : z = (List.range (len * z1.length)).map fun i => z1.getD (i % z1.length) undef) (r : Rel ρ h w) (he : EnvRel ρ n s a.tmps)
  {vs : List (Nat × List Value)} (hv : partsOf s l = some vs) {c : List Value} (e : fillL z vs = some c) : Good P o ρ h a w (.slice (some ⟨h.size,0,none⟩) len len) (newRow h c z1.length []) := by
 obtain ⟨c',f2,hrun⟩ := mkSlice_run (w := w) o t el len parts ho ht hz hsm hc hzz he hv e
 obtain ⟨r1,r2⟩ := row_rel r c c' el z1.length true [] (by simp) 0 (by rw [List.take_of_length_le (by rw [f2.length];exact Nat.le_refl _)];exact f2) (by rw [f2.length];simp) _ rfl
 refine ⟨.slice (some ⟨w.heap.size,0,none⟩) len len,_,w.alloc (.cells c' el),.inl hrun,?_,r1,r2⟩
 exact .slice (i := ⟨w.heap.size,0,z1.length,0⟩) (by simp [Ren.put]) (Nat.le_refl _) (Nat.le_refl _) (by simp) (.inl rfl)
end Go.Ev
