/- Texts of the proofs over heraldlaw18, put together by a program (merge18c.py): Rq2. -/
import Derived.Test.YtnoghchcboiojaaGreatDoorD8
import Derived.Test.YtnoghchcboiojaaGreatDoorD4
import Derived.Test.YtnoghchcboiojaaGreatDoorD3
import Derived.Test.YtnoghchcboiojaaGreatDoorD6
import Derived.Test.YtnoghchcboiojaaGreatDoorC2
set_option linter.unusedVariables false
set_option linter.unusedSimpArgs false
section
set_option maxRecDepth 100000
namespace Go.Proofs
open Go.Shelf Go.Ev Go.RowKit Go.Deep
namespace YtnoghchcboiojaaGreatDoor
open Go.Rn (Bs Ru St numT stT)
def endT : Option Bs → Ending
 | some t => .returned (.string (ofB t))
 | none => .panicked [{ v := .iface 48 (.agg #[]),recovered := false }]
structure Old (B : Nat) (w w' : World) : Prop where
 os : w'.os = w.os
 output : w'.output = w.output
 size : w.heap.size ≤ w'.heap.size
 block : ∀ k,k < B → w'.heap[k]? = w.heap[k]?
theorem Old.trans {B : Nat} {a b c : World} (h : Old B a b) (k : Old B b c) : Old B a c := ⟨k.os.trans h.os,k.output.trans h.output,Nat.le_trans h.size k.size,fun i hi => (k.block i hi).trans (h.block i hi)⟩
theorem Old.of {B : Nat} {a b : World} (h : Below B a b) : Old B a b := ⟨h.os,h.output,h.size,fun k hk => h.block k hk⟩
theorem Old.weak {B B' : Nat} {a b : World} (h : Old B a b) (hb : B' ≤ B) : Old B' a b := ⟨h.os,h.output,h.size,fun k hk => h.block k (by omega)⟩
theorem Old.refl (B : Nat) (a : World) : Old B a a := ⟨rfl,rfl,Nat.le_refl _,fun _ _ => rfl⟩
def OpsW (w : World) (v : Value) (l : List Rn.Op) : Prop := ∃ a c,v = .slice a l.length c ∧ l.length ≤ c ∧ (c ≠ 0 → ∃ b o,a = some ⟨b,o,none⟩ ∧ b < w.heap.size) ∧ ∀ i o,l[i]? = some o → ∃ b f,a = some ⟨b,f,none⟩ ∧ b < w.heap.size ∧
 ∀ j x,(opC o)[j]? = some x → w.cell? ⟨b,f + i * 5 + j,none⟩ = some x
def StsW (w : World) (v : Value) (l : List St) : Prop := ∃ a c,v = .slice a l.length c ∧ l.length ≤ c ∧ ∀ i s,l[i]? = some s → ∃ b f ov,a = some ⟨b,f,none⟩ ∧ b < w.heap.size ∧ OpsW w ov s.ops ∧
 w.cell? ⟨b,f + i * 6,none⟩ = some (.int .i64 s.kind) ∧ w.cell? ⟨b,f + i * 6 + 1,none⟩ = some (.int .i64 s.a) ∧ w.cell? ⟨b,f + i * 6 + 2,none⟩ = some (.int .i64 s.b) ∧
 w.cell? ⟨b,f + i * 6 + 3,none⟩ = some (.int .i64 s.c) ∧ w.cell? ⟨b,f + i * 6 + 4,none⟩ = some (.string (ofB s.place)) ∧ w.cell? ⟨b,f + i * 6 + 5,none⟩ = some ov
def printW : Rn.WRes → Value
 | .ok t => .tuple #[.string (ofB t),.int .i64 0]
 | .long => .tuple #[.string .empty,.int .i64 2]
 | .bad => .tuple #[.string .empty,.int .i64 180]
theorem mf14 : ∀ (fn : Fn) (first cap : Array Value) (w : World),(Instr.makeFunc fn first cap).run Tryz.prog w = .ok (.func fn first cap) w := fun _ _ _ _ => rfl
theorem isB_old {B b : Nat} {acc : List UInt8} {w w' : World} (h : IsB B b acc w) (k : Old w.heap.size w w') : IsB B b acc w' := by
 have hb : Below w.heap.size w { w' with tape := w.tape } := Below.mk k.os rfl k.output k.size k.block
 have at' : ∀ {p : Value},Lib.BuilderAtF 71 5 B b p (Lib.byteCells acc) w → Lib.BuilderAtF 71 5 B b p (Lib.byteCells acc) { w' with tape := w.tape } := by
  intro p h
  have hlt := h.lt
  obtain ⟨hB,v,hv,hown,hne⟩ := h
  exact ⟨hB,v,(hb.block b hlt).trans hv,hown.kept (row := none) ⟨hb.os,hb.tape,hb.output,hb.size,fun k hk _ => hb.block k hk⟩ (Classical.em _),hne⟩
 have : IsB B b acc { w' with tape := w.tape } := h.elim (fun x => .inl (at' x)) (fun x => .inr (at' x))
 exact this
def rulC (r : Ru) : Array Value := #[.int .i64 r.nodes,.int .i64 r.clients,.int .i64 r.queue,.int .i64 r.ring,.int .i64 r.window,.int .i64 r.lease]
structure PrF (w : World) (r : Ru) (acc : Bs) (wr : World) : Prop where
 old : Old w.heap.size w wr
 rul : wr.heap[w.heap.size]? = some (.cells (rulC r) 23)
 txt : wr.heap[w.heap.size + 1]? = some (.cells #[.string { data := #[] }] 9)
 cod : wr.heap[w.heap.size + 2]? = some (.cells #[.int .i64 0] 25)
 bld : IsB (w.heap.size + 3) (w.heap.size + 3) acc wr
 len : w.heap.size + 4 ≤ wr.heap.size
theorem PrF.ws {w wr wr' : World} {r : Ru} {acc acc' : Bs} (h : PrF w r acc wr) (hb : Below (w.heap.size + 3) wr wr') (hi : IsB (w.heap.size + 3) (w.heap.size + 3) acc' wr') : PrF w r acc' wr' :=
 ⟨h.old.trans ((Old.of hb).weak (by omega)),(hb.block _ (by omega)).trans h.rul,(hb.block _ (by omega)).trans h.txt,(hb.block _ (by omega)).trans h.cod,hi,Nat.le_trans h.len hb.size⟩
theorem PrF.go {w wr wr' : World} {r : Ru} {acc : Bs} (h : PrF w r acc wr) (k : Old wr.heap.size wr wr') : PrF w r acc wr' := by
 have := h.len
 exact ⟨h.old.trans (k.weak (by omega)),(k.block _ (by omega)).trans h.rul,(k.block _ (by omega)).trans h.txt,(k.block _ (by omega)).trans h.cod,isB_old h.bld k,Nat.le_trans h.len k.size⟩
theorem al_size (w : World) (o : Obj) : (w.alloc o).heap.size = w.heap.size + 1 := by show (w.heap.push o).size = _;simp
theorem al_new (w : World) (o : Obj) : (w.alloc o).heap[w.heap.size]? = some o := by
 show (w.heap.push o)[_]? = _
 simp
theorem al_old (w : World) (o : Obj) {k : Nat} (hk : k < w.heap.size) : (w.alloc o).heap[k]? = w.heap[k]? := by
 show (w.heap.push o)[k]? = _
 rw [Array.getElem?_push,if_neg (by omega)]
theorem old_alloc {B : Nat} (w : World) (o : Obj) (hB : B ≤ w.heap.size) : Old B w (w.alloc o) := ⟨rfl,rfl,by rw [al_size];omega,fun k hk => al_old w o (by omega)⟩
theorem old_drew {B : Nat} {a b : World} (h : Old B a b) : Old B a b.drew := ⟨h.os,h.output,h.size,h.block⟩
theorem prF_start (w : World) (r : Ru) : PrF w r [] ((((w.alloc (.cells (rulC r) 23)).alloc (.cells #[.string { data := #[] }] 9)).alloc (.cells #[.int .i64 0] 25)).alloc (.cells #[.pointer none,.slice none 0 0] 71)) := by
 have z1 := al_size w (.cells (rulC r) 23)
 have n1 := al_new w (.cells (rulC r) 23)
 have o1 := old_alloc (B := w.heap.size) w (.cells (rulC r) 23) (Nat.le_refl _)
 generalize w.alloc (.cells (rulC r) 23) = w1 at *
 have z2 := al_size w1 (.cells #[.string { data := #[] }] 9)
 have n2 := al_new w1 (.cells #[.string { data := #[] }] 9)
 have o2 := fun B h => old_alloc (B := B) w1 (.cells #[.string { data := #[] }] 9) h
 generalize w1.alloc (.cells #[.string { data := #[] }] 9) = w2 at *
 have z3 := al_size w2 (.cells #[.int .i64 0] 25)
 have n3 := al_new w2 (.cells #[.int .i64 0] 25)
 have o3 := fun B h => old_alloc (B := B) w2 (.cells #[.int .i64 0] 25) h
 generalize w2.alloc (.cells #[.int .i64 0] 25) = w3 at *
 have hI := isB_fresh w3
 have o4 := fun B h => old_alloc (B := B) w3 (.cells #[.pointer none,.slice none 0 0] 71) h
 have z4 := al_size w3 (.cells #[.pointer none,.slice none 0 0] 71)
 generalize w3.alloc (.cells #[.pointer none,.slice none 0 0] 71) = w4 at *
 have e3 : w3.heap.size = w.heap.size + 3 := by omega
 rw [e3] at hI
 refine ⟨((o1.trans (o2 _ (by omega))).trans (o3 _ (by omega))).trans (o4 _ (by omega)),?_,?_,?_,hI,by omega⟩
 ·rw [(o4 w3.heap.size (Nat.le_refl _)).block _ (by omega),(o3 w2.heap.size (Nat.le_refl _)).block _ (by omega),(o2 w1.heap.size (Nat.le_refl _)).block _ (by omega)];exact n1
 ·rw [(o4 w3.heap.size (Nat.le_refl _)).block _ (by omega),(o3 w2.heap.size (Nat.le_refl _)).block _ (by omega),← z1];exact n2
 ·rw [(o4 w3.heap.size (Nat.le_refl _)).block _ (by omega),show w.heap.size + 2 = w2.heap.size by omega];exact n3
def nums (r : Ru) : List (Bs × Int) := [(Go.Rn.w_nodes,r.nodes),(Go.Rn.w_clients,r.clients),(Go.Rn.w_queue,r.queue),(Go.Rn.w_ring,r.ring),(Go.Rn.w_window,r.window),(Go.Rn.w_lease,r.lease)]
def numP (q : Bs × Int) : Option Bs := (numT q.2).map fun t => 32 :: (q.1 ++ 32 :: t)
def P2 (l : List St) (acc : Bs) : Rn.WRes := match l.mapM stT with
 | none => .bad
 | some b => if (acc ++ (b.map fun t => t ++ [10]).flatten).length > 65536 then .long else .ok (acc ++ (b.map fun t => t ++ [10]).flatten)
def P1 (q : List (Bs × Int)) (l : List St) (acc : Bs) : Rn.WRes := match q.mapM numP with
 | none => .bad
 | some ts => P2 l (acc ++ ts.flatten ++ [10])
theorem print_P1 (r : Ru) (l : List St) (hl : ¬ l.length > 400) : Rn.print r l = P1 (nums r) l Go.Rn.w_world := by
 unfold Rn.print Rn.printT Rn.rulesT P1
 rw [if_neg hl]
 show (match (match ((nums r).mapM numP).map (fun l => Go.Rn.w_world ++ l.flatten),l.mapM stT with
  | some a,some b => some (a ++ 10 :: (b.map fun t => t ++ [10]).flatten)
  | _,_ => none) with | none => _ | some t => _) = _
 cases (nums r).mapM numP with
 | none => rfl
 | some ts =>
  simp only [Option.map_some,P2]
  cases l.mapM stT with
  | none => rfl
  | some b => simp
theorem P1_nil (l : List St) (acc : Bs) : P1 [] l acc = P2 l (acc ++ [10]) := by simp [P1]
theorem P1_cons (q : Bs × Int) (qs : List (Bs × Int)) (l : List St) (acc : Bs) : P1 (q :: qs) l acc = match numT q.2 with
  | none => .bad
  | some t => P1 qs l (acc ++ (32 :: (q.1 ++ 32 :: t))) := by
 unfold P1
 have e : numP q = (numT q.2).map fun t => 32 :: (q.1 ++ 32 :: t) := rfl
 simp only [List.mapM_cons,e]
 cases numT q.2 with
 | none => rfl
 | some t =>
  simp only [Option.map_some,Option.bind_eq_bind,Option.bind_some]
  generalize qs.mapM numP = z
  cases z with
  | none => rfl
  | some ts => simp
theorem P2_nil (acc : Bs) : P2 [] acc = if acc.length > 65536 then .long else .ok acc := by simp [P2]
theorem P2_cons (s : St) (l : List St) (acc : Bs) : P2 (s :: l) acc = match stT s with
  | none => .bad
  | some t => P2 l (acc ++ (t ++ [10])) := by
 unfold P2
 simp only [List.mapM_cons]
 cases stT s with
 | none => rfl
 | some t =>
  simp only [Option.bind_eq_bind,Option.bind_some]
  cases l.mapM stT with
  | none => rfl
  | some b => simp
theorem field_at {w wr : World} {r : Ru} {acc : Bs} {fr i : Nat} (hF : PrF w r acc wr) (hfr : wr.heap[fr]? = some (.cells (fieldCells w.heap.size) 81)) (hi : i < 6) :
  ∃ (nm : Bs) (z : Int),(nums r).drop i = (nm,z) :: (nums r).drop (i + 1) ∧ nm.length ≤ 7 ∧ wr.cell? ⟨fr,i * 2,none⟩ = some (.string (ofB nm)) ∧ wr.cell? ⟨fr,i * 2 + 1,none⟩ = some (.pointer (some ⟨w.heap.size,i,none⟩)) ∧
   wr.cell? ⟨w.heap.size,i,none⟩ = some (.int .i64 z) := by
 have hr := hF.rul
 have h : i = 0 ∨ i = 1 ∨ i = 2 ∨ i = 3 ∨ i = 4 ∨ i = 5 := by omega
 rcases h with rfl | rfl | rfl | rfl | rfl | rfl <;> refine ⟨_,_,rfl,by decide,?_,?_,?_⟩ <;> first
  | (simp only [World.cell?,hfr,fieldCells];rfl)
  | (simp only [World.cell?,hr,rulC];rfl)
theorem vars_old {w w' : World} (h : Vars w) (k : Old w.heap.size w w') : Vars w' :=
 ⟨Nat.le_trans h.le k.size,let ⟨t,fr,e⟩ := h.tab;⟨t,fr,(k.block gTab (Nat.lt_of_lt_of_le (by decide) h.le)).trans e⟩⟩
abbrev D14 (n : Nat) : List Deferred := [{ target := .fn (.func 28) #[.pointer (some ⟨n + 1,0,none⟩),.pointer (some ⟨n + 2,0,none⟩)],args := #[] }]
theorem load_at {w : World} {b : Nat} {v : Value} {t : TypeId} (hb : w.heap[b]? = some (.cells #[v] t)) : w.cell? ⟨b,0,none⟩ = some v := by simp [World.cell?,hb]
theorem res14 {a : Act} {w3 : World} {n : Nat} {tv cv : Value} (h4 : a.tmps.getD 4 undef = .pointer (some ⟨n + 1,0,none⟩)) (h5 : a.tmps.getD 5 undef = .pointer (some ⟨n + 2,0,none⟩))
  (ht : w3.heap[n + 1]? = some (.cells #[tv] 9)) (hc : w3.heap[n + 2]? = some (.cells #[cv] 25)) : (results Tryz.f14 a.tmps).run Tryz.prog w3 = .ok (.tuple #[tv,cv]) w3 := by
 have c1 := load_at ht
 have c2 := load_at hc
 rw [Array.getD_eq_getD_getElem?] at h4 h5
 simp [results,Tryz.results14,go_sem,h4,h5,c1,c2]
theorem done14 {a : Act} {w w3 : World} {n : Nat} {tv cv : Value} (hn : n = w.heap.size) (hD : a.defers = D14 n) (h4 : a.tmps.getD 4 undef = .pointer (some ⟨n + 1,0,none⟩)) (h5 : a.tmps.getD 5 undef = .pointer (some ⟨n + 2,0,none⟩))
  (ht : w3.heap[n + 1]? = some (.cells #[tv] 9)) (hc : w3.heap[n + 2]? = some (.cells #[cv] 25)) (hold : Old n w w3) {Q : Ending → World → Prop} (hQ : ∀ w',Old n w w' → Q (.returned (.tuple #[tv,cv])) w') :
  Leaves Tryz.prog Tryz.f14 a.tmps Q a.defers .returning w3 := by
 have l1 := (Array.getElem?_eq_some_iff.1 ht).1
 have l2 := (Array.getElem?_eq_some_iff.1 hc).1
 rw [hD]
 refine leaves_cons (f := 28) (args := #[.pointer (some ⟨n + 1,0,none⟩),.pointer (some ⟨n + 2,0,none⟩)]) (by simp) (by simp [go_sem]) ?_
 refine (idle28 _ _ w3).mono ?_
 rintro e u' w'' ⟨rfl,rfl,rfl⟩
 have ha : (w3.alloc (.cells #[] 48)).heap[n + 1]? = some (.cells #[tv] 9) := by rw [al_old _ _ l1];exact ht
 have hb : (w3.alloc (.cells #[] 48)).heap[n + 2]? = some (.cells #[cv] 25) := by rw [al_old _ _ l2];exact hc
 exact ⟨_,res14 h4 h5 ha hb,hQ _ (hold.trans (old_alloc w3 _ (by omega)))⟩
theorem sc_heap (w : World) (b : Nat) (x v : Value) (t : TypeId) (hb : w.heap[b]? = some (.cells #[x] t)) : (w.setCell ⟨b,0,none⟩ v).heap[b]? = some (.cells #[v] t) := by
 have := (Array.getElem?_eq_some_iff.1 hb).1
 have e := (Array.getElem?_eq_some_iff.1 hb).2
 simp [World.setCell,this,Array.getElem_modify,e]
theorem sc_other (w : World) (b k : Nat) (v : Value) (h : k ≠ b) : (w.setCell ⟨b,0,none⟩ v).heap[k]? = w.heap[k]? := Go.Ev.heap_setCell_other w ⟨b,0,none⟩ v h
theorem sc_old {B : Nat} (w : World) (b : Nat) (v : Value) (h : B ≤ b) : Old B w (w.setCell ⟨b,0,none⟩ v) :=
 ⟨rfl,rfl,by simp [World.setCell],fun k hk => sc_other w b k v (by omega)⟩
theorem caught14 {a : Act} {w w3 : World} {n : Nat} {tv cv : Value} (hn : n = w.heap.size) (hD : a.defers = D14 n) (h4 : a.tmps.getD 4 undef = .pointer (some ⟨n + 1,0,none⟩)) (h5 : a.tmps.getD 5 undef = .pointer (some ⟨n + 2,0,none⟩))
  (ht : w3.heap[n + 1]? = some (.cells #[tv] 9)) (hc : w3.heap[n + 2]? = some (.cells #[cv] 25)) (hold : Old n w w3) {Q : Ending → World → Prop} (hQ : ∀ w',Old n w w' → Q (.returned (printW .bad)) w') :
  Leaves Tryz.prog Tryz.f14 a.tmps Q a.defers (.panicking [{ v := .iface 48 (.agg #[]),recovered := false }]) w3 := by
 have l1 := (Array.getElem?_eq_some_iff.1 ht).1
 have l2 := (Array.getElem?_eq_some_iff.1 hc).1
 rw [hD]
 refine leaves_cons (f := 28) (args := #[.pointer (some ⟨n + 1,0,none⟩),.pointer (some ⟨n + 2,0,none⟩)]) (by simp) (by simp [go_sem]) ?_
 refine (catch28 (n + 1) (n + 2) tv cv w3 ht hc (by omega)).mono ?_
 rintro e u' w'' ⟨rfl,rfl,rfl⟩
 have ha : (w3.alloc (.cells #[] 48)).heap[n + 1]? = some (.cells #[tv] 9) := by rw [al_old _ _ l1];exact ht
 have hb : (w3.alloc (.cells #[] 48)).heap[n + 2]? = some (.cells #[cv] 25) := by rw [al_old _ _ l2];exact hc
 have o1 := hold.trans (old_alloc w3 (.cells #[] 48) (by omega))
 generalize w3.alloc (.cells #[] 48) = w4 at *
 have o2 := o1.trans (sc_old w4 (n + 1) (.string .empty) (by omega))
 have ha2 := sc_heap w4 (n + 1) tv (.string .empty) 9 ha
 have hb2 := (sc_other w4 (n + 1) (n + 2) (.string .empty) (by omega)).trans hb
 generalize w4.setCell ⟨n + 1,0,none⟩ (.string .empty) = w5 at *
 have o3 := o2.trans (sc_old w5 (n + 2) (.int .i64 180) (by omega))
 have ha3 := (sc_other w5 (n + 2) (n + 1) (.int .i64 180) (by omega)).trans ha2
 have hb3 := sc_heap w5 (n + 2) cv (.int .i64 180) 25 hb2
 exact ⟨_,res14 h4 h5 ha3 hb3,hQ _ o3⟩
def OnlyN (Q : Exit → Act → World → Prop) : Exit → Act → World → Prop := fun ex a w => match ex with
 | .normal => Q .normal a w
 | _ => False
theorem wp_onlyN {P : Program} {c : Code} {Q : Exit → Act → World → Prop} {a : Act} {w : World} (h : c.wp P (OnlyN Q) a w) : c.wp P Q a w := wp_mono h fun e a w q => by
 cases e with
 | normal => exact q
 | _ => exact q.elim
def PnQ (D : List Deferred) (p4 p5 : Value) (R : World → Prop) : Exit → Act → World → Prop := fun ex a w => match ex with
 | .panic c => c = [{ v := .iface 48 (.agg #[]),recovered := false }] ∧ a.defers = D ∧ a.tmps.getD 4 undef = p4 ∧ a.tmps.getD 5 undef = p5 ∧ R w
 | _ => False
theorem PnQ.put {D : List Deferred} {p4 p5 : Value} {R : World → Prop} (d : Nat) (hd : 6 ≤ d) {v : Value} {c : List PanicEntry} {a : Act} {w : World} (h : PnQ D p4 p5 R (.panic c) (a.put (some d) v) w) : PnQ D p4 p5 R (.panic c) a w := by
 obtain ⟨h1,h2,h3,h4,h5⟩ := h
 refine ⟨h1,h2,?_,?_,h5⟩
 ·rw [← h3];simp only [Act.put,Array.getD_eq_getD_getElem?];rw [Array.getElem?_setIfInBounds_ne (by omega)]
 ·rw [← h4];simp only [Act.put,Array.getD_eq_getD_getElem?];rw [Array.getElem?_setIfInBounds_ne (by omega)]
theorem opsW_old {w w' : World} {v : Value} {l : List Rn.Op} (h : OpsW w v l) (k : Old w.heap.size w w') : OpsW w' v l := by
 obtain ⟨a,c,h1,h2,h3,h4⟩ := h
 have hs := k.size
 refine ⟨a,c,h1,h2,fun hc => (let ⟨b,o,e1,e2⟩ := h3 hc;⟨b,o,e1,by omega⟩),fun i o ho => ?_⟩
 ·obtain ⟨b,f,h5,h6,h7⟩ := h4 i o ho
  refine ⟨b,f,h5,by omega,fun j x hx => ?_⟩
  rw [← h7 j x hx]
  simp only [World.cell?,k.block b h6]
def WatW (w : World) : Prop := ∃ arr t fr rest,w.heap[1]? = some (.cells arr t fr) ∧ arr.toList = vs [] :: vs Go.Rn.w_node :: vs Go.Rn.w_kids :: vs Go.Rn.w_subtree :: rest
theorem watW_old {w w' : World} (h : WatW w) (k : Old w.heap.size w w') : WatW w' := by
 obtain ⟨arr,t,fr,rest,h1,h2⟩ := h
 exact ⟨arr,t,fr,rest,(k.block 1 (Array.getElem?_eq_some_iff.1 h1).1).trans h1,h2⟩
set_option maxHeartbeats 4000000 in
theorem print_walk (hnum : ∀ (n : Int) (w : World),Vars w → Calls Tryz.prog 31 #[.int .i64 n] w fun e w' => e = endT (numT n) ∧ Old w.heap.size w w') (hstep : ∀ (s : St) (ov : Value) (w : World),Vars w → WatW w → OpsW w ov s.ops → Calls Tryz.prog 32 #[.agg #[.int .i64 s.kind,.int .i64 s.a,.int .i64 s.b,.int .i64 s.c,.string (ofB s.place),ov]] w fun e w' => e = endT (stT s) ∧ Old w.heap.size w w')
  (r : Ru) (l : List St) (v : Value) (w : World) (hg : Vars w) (hgw : WatW w) (hv : StsW w v l) :
  Calls Tryz.prog 14 #[.agg #[.int .i64 r.nodes,.int .i64 r.clients,.int .i64 r.queue,.int .i64 r.ring,.int .i64 r.window,.int .i64 r.lease],v] w fun e w' => e = .returned (printW (Rn.print r l)) ∧ Old w.heap.size w w' := by
 obtain ⟨a,c,rfl,hlc,hel⟩ := hv
 have hmf := mf14
 have u24 := run_underlying Tryz.underlying24;have u76 := run_underlying Tryz.underlying76;have u81 := run_underlying Tryz.underlying81
 by_cases hl : (400 : Int) < l.length
 ·go_enter_defers Tryz.func14,Tryz.ntmps14
  go_wp2
  have e : Rn.print r l = .long := by unfold Rn.print;rw [if_pos (by omega)]
  rw [e]
  have z1 := al_size w (.cells (rulC r) 23)
  have o1 := old_alloc (B := w.heap.size) w (.cells (rulC r) 23) (Nat.le_refl _)
  unfold rulC at z1 o1
  generalize w.alloc (.cells #[.int .i64 r.nodes,.int .i64 r.clients,.int .i64 r.queue,.int .i64 r.ring,.int .i64 r.window,.int .i64 r.lease] 23) = w1 at *
  have z2 := al_size w1 (.cells #[.string { data := #[] }] 9)
  have n2 := al_new w1 (.cells #[.string { data := #[] }] 9)
  have o2 := fun B h => old_alloc (B := B) w1 (.cells #[.string { data := #[] }] 9) h
  generalize w1.alloc (.cells #[.string { data := #[] }] 9) = w2 at *
  have n3 := al_new w2 (.cells #[.int .i64 2] 25)
  have o3 := fun B h => old_alloc (B := B) w2 (.cells #[.int .i64 2] 25) h
  generalize w2.alloc (.cells #[.int .i64 2] 25) = w3 at *
  refine ⟨_,res14 (n := w.heap.size) rfl rfl (tv := .string .empty) (cv := .int .i64 2) ?_ ?_,rfl,(o1.trans (o2 _ (by omega))).trans (o3 _ (by omega))⟩
  ·rw [(o3 w2.heap.size (Nat.le_refl _)).block _ (by omega),← z1];exact n2
  ·rw [show w.heap.size + 2 = w2.heap.size by omega];exact n3
 ·have hp := print_P1 r l (by omega)
  go_enter_defers Tryz.func14,Tryz.ntmps14
  have hF := prF_start w r
  have hw := ws_at (w.heap.size + 3) (w.heap.size + 3) [] { data := #[119,111,114,108,100] } _ hF.bld (by decide) (by have := hF.len;omega)
  unfold rulC at hF hw
  go_wp2_with (go_at_call 29;refine Calls.mono hw ?_)
  rintro e W1 rfl h1 b1 _
  have hF1 := hF.ws b1 h1
  clear hF hw b1 h1
  go_wp2_with (go_at_call 30;refine Calls.mono (fields_k w.heap.size W1) ?_)
  rintro e W2 ⟨rfl,hW2⟩
  have hfr : W2.heap[W1.heap.size]? = some (.cells (fieldCells w.heap.size) 81) := by rw [hW2];exact al_new W1 _
  have hF2 : PrF w r Go.Rn.w_world W2 := hF1.go (by rw [hW2];exact old_drew (old_alloc W1 _ (Nat.le_refl _)))
  have hrow : w.heap.size + 4 ≤ W1.heap.size := hF1.len
  have hold1 : Old w.heap.size w W2 := hF2.old
  clear hW2 hF1
  generalize W1.heap.size = fr at *
  go_wp2
  go_loopw [18] (fun vi wr => ∃ (i : Nat) (acc : Bs),vi = .int .i64 i ∧ i ≤ 6 ∧ PrF w r acc wr ∧ wr.heap[fr]? = some (.cells (fieldCells w.heap.size) 81) ∧ acc.length ≤ 5 + 40 * i ∧ Rn.print r l = P1 ((nums r).drop i) l acc) (fun vi _ => 6 - (intOf vi).toNat)
  case atStart =>
   exact ⟨0,Go.Rn.w_world,rfl,by omega,hF2,hfr,by decide,hp⟩
  case round =>
   obtain ⟨i,acc,hvi,hi,hF3,hfr3,hal,hp3⟩ := hrel
   subst hvi
   clear hfr hF2 hp
   by_cases hlt : i < 6
   ·obtain ⟨nm,z,hd,hnl,c1,c2,c3⟩ := field_at hF3 hfr3 hlt
    have hF4 : PrF w r acc (wr.alloc (.cells #[.string (ofB nm),.pointer (some ⟨w.heap.size,i,none⟩)] 81)) := hF3.go (old_alloc wr _ (Nat.le_refl _))
    have hfr4 : (wr.alloc (.cells #[.string (ofB nm),.pointer (some ⟨w.heap.size,i,none⟩)] 81)).heap[fr]? = some (.cells (fieldCells w.heap.size) 81) := by
     rw [al_old _ _ (Array.getElem?_eq_some_iff.1 hfr3).1];exact hfr3
    have HF4 : Hid (PrF w r acc (wr.alloc (.cells #[.string (ofB nm),.pointer (some ⟨w.heap.size,i,none⟩)] 81))) := hF4
    have HR4 : Hid ((wr.alloc (.cells #[.string (ofB nm),.pointer (some ⟨w.heap.size,i,none⟩)] 81)).heap[fr]? = some (.cells (fieldCells w.heap.size) 81)) := hfr4
    have HP : Hid (Rn.print r l = P1 ((nums r).drop i) l acc) := hp3
    have HD : Hid ((nums r).drop i = (nm,z) :: (nums r).drop (i + 1)) := hd
    have HG : Hid (Vars w) := hg
    have HO : Hid (Old w.heap.size w W2) := hold1
    clear hF3 hfr3 hF4 hfr4 hp3 hd hg hold1
    go_wp2_with (fail)
    have g1 : (wr.alloc (.cells #[.string (ofB nm),.pointer (some ⟨w.heap.size,i,none⟩)] 81)).cell? ⟨wr.heap.size,0,none⟩ = some (.string (ofB nm)) := by simp only [World.cell?,al_new];rfl
    have g2 : (wr.alloc (.cells #[.string (ofB nm),.pointer (some ⟨w.heap.size,i,none⟩)] 81)).cell? ⟨wr.heap.size,1,none⟩ = some (.pointer (some ⟨w.heap.size,i,none⟩)) := by simp only [World.cell?,al_new];rfl
    have g3 : (wr.alloc (.cells #[.string (ofB nm),.pointer (some ⟨w.heap.size,i,none⟩)] 81)).cell? ⟨w.heap.size,i,none⟩ = some (.int .i64 z) := by
     simp only [World.cell?,al_old wr _ (show w.heap.size < wr.heap.size by have := HF4.out.len;rw [al_size] at this;omega)]
     simpa only [World.cell?] using c3
    clear c1 c2 c3
    generalize wr.alloc (.cells #[.string (ofB nm),.pointer (some ⟨w.heap.size,i,none⟩)] 81) = wx at *
    generalize wr.heap.size = bb at *
    have hq : ∀ X,Old wx.heap.size wx X → Calls Tryz.prog 31 #[.int .i64 z] X fun e w' => e = endT (numT z) ∧ Old X.heap.size X w' := fun X k => hnum z X (vars_old HG.out (HF4.out.old.trans (k.weak (by have := HF4.out.len;omega))))
    have hws : ∀ X t,Old wx.heap.size wx X → t.size ≤ 1000 → Calls Tryz.prog 29 #[.pointer (some ⟨w.heap.size + 3,0,none⟩),.string t] X fun e w' => e = .returned (.tuple #[.int .i64 t.size,.nilIface]) ∧ PrF w r (acc ++ bs t) w' ∧ w'.heap[fr]? = some (.cells (fieldCells w.heap.size) 81) := by
     intro X t k ht
     have hFX := HF4.out.go k
     have hRX := (k.block fr (Array.getElem?_eq_some_iff.1 HR4.out).1).trans HR4.out
     refine (ws_at (w.heap.size + 3) (w.heap.size + 3) acc t X hFX.bld (by omega) (by have := hFX.len;omega)).mono ?_
     rintro e w' ⟨rfl,h1,h2,h3⟩
     exact ⟨rfl,hFX.ws h2 h1,h3 fr _ hRX (by simp;omega) (by intro c fz e;cases e)⟩
    have hbb : bb < wx.heap.size := by
     rcases Nat.lt_or_ge bb wx.heap.size with h' | h'
     ·exact h'
     ·simp [World.cell?,Array.getElem?_eq_none h'] at g1
    have HC : Hid (∀ X,Old wx.heap.size wx X → X.cell? ⟨bb,0,none⟩ = some (.string (ofB nm))) := by
     intro X k
     rw [← g1]
     simp only [World.cell?,k.block bb hbb]
    clear hnum hbb
    cases hz : numT z with
    | some t =>
     rw [hz] at hq
     simp only [endT] at hq
     have htl := Go.Rn.numT_len hz
     have hs32 : slen { data := #[32] } = 1 := rfl
     have n1 : ¬ 9223372036854775807 < 1 + nm.length := by omega
     have n2 : ¬ 9223372036854775807 < 1 + nm.length + 1 := by omega
     have n3 : ¬ 9223372036854775807 < 1 + nm.length + 1 + t.length := by omega
     have hbs : bs ({ data := #[32] } ++ ofB nm ++ { data := #[32] } ++ ofB t) = 32 :: (nm ++ 32 :: t) := by
      rw [bs_app,bs_app,bs_app,bs_ofB,bs_ofB];simp [bs]
     have hsz : ({ data := #[32] } ++ ofB nm ++ { data := #[32] } ++ ofB t : ByteArray).size ≤ 1000 := by
      have := congrArg List.length hbs
      rw [bs_len] at this
      have e : slen ({ data := #[32] } ++ ofB nm ++ { data := #[32] } ++ ofB t) = ({ data := #[32] } ++ ofB nm ++ { data := #[32] } ++ ofB t : ByteArray).size := rfl
      rw [e] at this;rw [this];simp;omega
     have HQ : Hid (bs ({ data := #[32] } ++ ofB nm ++ { data := #[32] } ++ ofB t) = 32 :: (nm ++ 32 :: t)) := hbs
     have HS : Hid (({ data := #[32] } ++ ofB nm ++ { data := #[32] } ++ ofB t : ByteArray).size ≤ 1000) := hsz
     have HZ : Hid (numT z = some t) := hz
     clear hbs hsz hz
     refine wp_onlyN ?_
     go_region_with (first
      | (go_at_call 31;refine Calls.mono (hq _ ?_) ?_;exact ⟨rfl,rfl,Nat.le_refl _,fun _ _ => rfl⟩;rintro e W3 ⟨rfl,k3⟩;have g4 := HC.out W3 ⟨k3.os,k3.output,k3.size,k3.block⟩)
      | (go_at_call 29;refine Calls.mono (hws _ _ ⟨k3.os,k3.output,k3.size,k3.block⟩ HS.out) ?_;rintro e W4 ⟨rfl,h4,h5⟩))
     all_goals
      show Exit.inBlock 1 _ Exit.normal _ _
      go_wp2
      go_roundw
      case rel =>
       refine ⟨i + 1,_,by go_num,by omega,h4,h5,?_,?_⟩
       ·rw [HQ.out];simp;omega
       ·rw [HP.out,HD.out,P1_cons,HZ.out,HQ.out]
      case measure => simp [intOf];omega
    | none =>
     rw [hz] at hq
     simp only [endT] at hq
     have hbad : Rn.print r l = .bad := by rw [HP.out,HD.out,P1_cons,hz]
     have hs32 : slen { data := #[32] } = 1 := rfl
     have n1 : ¬ 9223372036854775807 < 1 + nm.length := by omega
     have n2 : ¬ 9223372036854775807 < 1 + nm.length + 1 := by omega
     refine wp_mono (Q := PnQ (D14 w.heap.size) (.pointer (some ⟨w.heap.size + 1,0,none⟩)) (.pointer (some ⟨w.heap.size + 2,0,none⟩)) (PrF w r acc)) ?_ ?_
     ·clear hws
      refine wp_region_any (by kernel_rfl) ?_
      change wpAny _ _ _ _ _ _ _ (World.drew _)
      refine wpAny_take (i := 0) (v := ?_) rfl (by kernel_rfl) (by kernel_rfl) (by kernel_rfl) (fun c a w h => PnQ.put 22 (by decide) h) (Or.inl ⟨by rfl,?_⟩) ?_
      rotate_left
      ·intro w;go_simp;try with_reducible rfl
      refine wpAny_take (i := 4) (v := ?_) rfl (by kernel_rfl) (by kernel_rfl) (by kernel_rfl) (fun c a w h => PnQ.put 26 (by decide) h) (Or.inl ⟨by rfl,?_⟩) ?_
      rotate_left
      ·intro w;go_simp;try with_reducible rfl
      refine wpAny_ready (rs := [1,5]) (by kernel_rfl) (by simp) ?_
      refine AllReady.cons rfl (fun K hK => ?_) ?_
      ·
       go_simp
       refine hK _ _ ?_
       clear hK K
       refine wpAny_take (i := 2) (v := ?_) rfl (by kernel_rfl) (by kernel_rfl) (by kernel_rfl) (fun c a w h => PnQ.put 24 (by decide) h) (Or.inl ⟨by rfl,?_⟩) ?_
       rotate_left
       ·intro w;go_simp;try with_reducible rfl
       refine wpAny_take (i := 3) (v := ?_) rfl (by kernel_rfl) (by kernel_rfl) (by kernel_rfl) (fun c a w h => PnQ.put 25 (by decide) h) (Or.inl ⟨by rfl,?_⟩) ?_
       rotate_left
       ·intro w;go_simp;try with_reducible rfl
       refine wpAny_ready (rs := [5]) (by kernel_rfl) (by simp) ?_
       refine AllReady.cons rfl (fun K hK => ?_) ?_
       ·
        go_simp
        refine hK _ _ ?_
        clear hK K
        refine wpAny_take (i := 6) (v := ?_) rfl (by kernel_rfl) (by kernel_rfl) (by kernel_rfl) (fun c a w h => PnQ.put 28 (by decide) h) (Or.inl ⟨by rfl,?_⟩) ?_
        rotate_left
        ·intro w;go_simp;try with_reducible rfl
        refine wpAny_ready (rs := [7]) (by kernel_rfl) (by simp) ?_
        refine AllReady.cons rfl (fun K hK => ?_) ?_
        ·
         go_simp
         refine hK _ _ ?_
         clear hK K
         refine wpAny_ready (rs := [8]) (by kernel_rfl) (by simp) ?_
         refine AllReady.cons rfl (fun K hK => ?_) ?_
         ·
          go_simp
          go_wp2_with (go_at_call 31;refine Calls.mono (hq _ ?_) ?_;exact ⟨rfl,rfl,Nat.le_refl _,fun _ _ => rfl⟩;rintro e W3 ⟨rfl,k3⟩)
          exact ⟨rfl,rfl,rfl,rfl,HF4.out.go ⟨k3.os,k3.output,k3.size,k3.block⟩⟩
         exact AllReady.nil
        exact AllReady.nil
       exact AllReady.nil
      refine AllReady.cons rfl (fun K hK => ?_) ?_
      ·
       go_simp
       refine hK _ _ ?_
       clear hK K
       refine wpAny_take (i := 6) (v := ?_) rfl (by kernel_rfl) (by kernel_rfl) (by kernel_rfl) (fun c a w h => PnQ.put 28 (by decide) h) (Or.inl ⟨by rfl,?_⟩) ?_
       rotate_left
       ·intro w;go_simp;try with_reducible rfl
       refine wpAny_ready (rs := [1,7]) (by kernel_rfl) (by simp) ?_
       refine AllReady.cons rfl (fun K hK => ?_) ?_
       ·
        go_simp
        refine hK _ _ ?_
        clear hK K
        refine wpAny_take (i := 2) (v := ?_) rfl (by kernel_rfl) (by kernel_rfl) (by kernel_rfl) (fun c a w h => PnQ.put 24 (by decide) h) (Or.inl ⟨by rfl,?_⟩) ?_
        rotate_left
        ·intro w;go_simp;try with_reducible rfl
        refine wpAny_take (i := 3) (v := ?_) rfl (by kernel_rfl) (by kernel_rfl) (by kernel_rfl) (fun c a w h => PnQ.put 25 (by decide) h) (Or.inl ⟨by rfl,?_⟩) ?_
        rotate_left
        ·intro w;go_simp;try with_reducible rfl
        refine wpAny_ready (rs := [7]) (by kernel_rfl) (by simp) ?_
        refine AllReady.cons rfl (fun K hK => ?_) ?_
        ·
         go_simp
         refine hK _ _ ?_
         clear hK K
         refine wpAny_ready (rs := [8]) (by kernel_rfl) (by simp) ?_
         refine AllReady.cons rfl (fun K hK => ?_) ?_
         ·
          go_simp
          go_wp2_with (go_at_call 31;refine Calls.mono (hq _ ?_) ?_;exact ⟨rfl,rfl,Nat.le_refl _,fun _ _ => rfl⟩;rintro e W3 ⟨rfl,k3⟩)
          exact ⟨rfl,rfl,rfl,rfl,HF4.out.go ⟨k3.os,k3.output,k3.size,k3.block⟩⟩
         exact AllReady.nil
        exact AllReady.nil
       refine AllReady.cons rfl (fun K hK => ?_) ?_
       ·
        go_simp
        refine hK _ _ ?_
        clear hK K
        refine wpAny_ready (rs := [1,8]) (by kernel_rfl) (by simp) ?_
        refine AllReady.cons rfl (fun K hK => ?_) ?_
        ·
         go_simp
         refine hK _ _ ?_
         clear hK K
         refine wpAny_take (i := 2) (v := ?_) rfl (by kernel_rfl) (by kernel_rfl) (by kernel_rfl) (fun c a w h => PnQ.put 24 (by decide) h) (Or.inl ⟨by rfl,?_⟩) ?_
         rotate_left
         ·intro w;go_simp;try with_reducible rfl
         refine wpAny_take (i := 3) (v := ?_) rfl (by kernel_rfl) (by kernel_rfl) (by kernel_rfl) (fun c a w h => PnQ.put 25 (by decide) h) (Or.inl ⟨by rfl,?_⟩) ?_
         rotate_left
         ·intro w;go_simp;try with_reducible rfl
         refine wpAny_ready (rs := [8]) (by kernel_rfl) (by simp) ?_
         refine AllReady.cons rfl (fun K hK => ?_) ?_
         ·
          go_simp
          go_wp2_with (go_at_call 31;refine Calls.mono (hq _ ?_) ?_;exact ⟨rfl,rfl,Nat.le_refl _,fun _ _ => rfl⟩;rintro e W3 ⟨rfl,k3⟩)
          exact ⟨rfl,rfl,rfl,rfl,HF4.out.go ⟨k3.os,k3.output,k3.size,k3.block⟩⟩
         exact AllReady.nil
        refine AllReady.cons rfl (fun K hK => ?_) ?_
        ·
         go_simp
         go_wp2_with (go_at_call 31;refine Calls.mono (hq _ ?_) ?_;exact ⟨rfl,rfl,Nat.le_refl _,fun _ _ => rfl⟩;rintro e W3 ⟨rfl,k3⟩)
         exact ⟨rfl,rfl,rfl,rfl,HF4.out.go ⟨k3.os,k3.output,k3.size,k3.block⟩⟩
        exact AllReady.nil
       exact AllReady.nil
      exact AllReady.nil
     ·intro ex a' w3 hx
      cases ex with
      | panic ch =>
       obtain ⟨rfl,h2,h3,h4,h5⟩ := hx
       show Leaves Tryz.prog Tryz.f14 a'.tmps _ a'.defers (.panicking _) w3
       exact caught14 rfl h2 h3 h4 h5.txt h5.cod h5.old fun w' hw' => ⟨by rw [hbad],hw'⟩
      | _ => exact hx.elim
   ·have : i = 6 := by omega
    subst this
    have hp4 : Rn.print r l = P2 l (acc ++ [10]) := by rw [hp3];exact P1_nil l acc
    clear hp3 hfr3 hi hlt
    have hg3 : Vars wr := vars_old hg hF3.old
    have hw := ws_at (w.heap.size + 3) (w.heap.size + 3) acc { data := #[10] } wr hF3.bld (by have h1 : ByteArray.size { data := #[10] } = 1 := rfl;omega) (by have := hF3.len;omega)
    go_wp2_with (go_at_call 29;refine Calls.mono hw ?_)
    rintro e W5 rfl h1 b1 _
    have hF5 := hF3.ws b1 h1
    clear hw b1 h1 hF3 hg3
    generalize hacc : acc ++ [10] = acc5 at *
    have hal5 : acc5.length ≤ 300 := by rw [← hacc];simp;omega
    clear hacc
    go_wp2
    go_loopw [37] (fun vi wr => ∃ (j : Nat) (ac : Bs),vi = .int .i64 j ∧ j ≤ l.length ∧ PrF w r ac wr ∧ ac.length ≤ 300 + 200001 * j ∧ Rn.print r l = P2 (l.drop j) ac) (fun vi _ => l.length - (intOf vi).toNat)
    case atStart =>
     exact ⟨0,acc5,rfl,by omega,hF5,hal5,hp4⟩
    case round =>
     obtain ⟨j,ac,hvj,hj,hF6,hal6,hp6⟩ := hrel
     subst hvj
     clear hF5 hp4 hal5
     by_cases hlt : j < l.length
     ·obtain ⟨s,hs⟩ : ∃ s,l[j]? = some s := ⟨_,List.getElem?_eq_getElem hlt⟩
      obtain ⟨b,f,ov,rfl,hbw,hops,q0,q1,q2,q3,q4,q5⟩ := hel j s hs
      have hblk := hF6.old.block b hbw
      have hd : l.drop j = s :: l.drop (j + 1) := by rw [List.drop_eq_getElem_cons hlt];congr 1;simpa [List.getElem?_eq_getElem hlt] using hs
      have cw : ∀ o,wr.cell? ⟨b,o,none⟩ = w.cell? ⟨b,o,none⟩ := fun o => by simp only [World.cell?,hblk]
      rw [← cw] at q0 q1 q2 q3 q4 q5
      clear cw hel
      have hops2 := hops
      obtain ⟨oa,oc,rfl,_⟩ := hops2
      have HOP : Hid (OpsW w (.slice oa s.ops.length oc) s.ops) := hops
      clear hops
      have hF7 : PrF w r ac (wr.alloc (.cells #[.int .i64 s.kind,.int .i64 s.a,.int .i64 s.b,.int .i64 s.c,.string (ofB s.place),.slice oa s.ops.length oc] 42)) := hF6.go (old_alloc wr _ (Nat.le_refl _))
      have HF7 : Hid (PrF w r ac (wr.alloc (.cells #[.int .i64 s.kind,.int .i64 s.a,.int .i64 s.b,.int .i64 s.c,.string (ofB s.place),.slice oa s.ops.length oc] 42))) := hF7
      clear hF6 hF7
      have HG : Hid (Vars w) := hg
      have HGW : Hid (WatW w) := hgw
      have HP : Hid (Rn.print r l = P2 (l.drop j) ac) := hp6
      have HD : Hid (l.drop j = s :: l.drop (j + 1)) := hd
      clear hg hgw hp6 hd
      go_wp2_with (fail)
      clear q0 q1 q2 q3 q4 q5
      generalize wr.alloc (.cells #[.int .i64 s.kind,.int .i64 s.a,.int .i64 s.b,.int .i64 s.c,.string (ofB s.place),.slice oa s.ops.length oc] 42) = wx at *
      have hq := hstep s (.slice oa s.ops.length oc) wx (vars_old HG.out HF7.out.old) (watW_old HGW.out HF7.out.old) (opsW_old HOP.out HF7.out.old)
      cases hz : stT s with
      | some t =>
       rw [hz] at hq
       simp only [endT] at hq
       have htl := Go.Rn.stT_len hz
       have hs10 : slen { data := #[10] } = 1 := rfl
       have n1 : ¬ 9223372036854775807 < t.length + 1 := by omega
       have HZ : Hid (stT s = some t) := hz
       clear hz
       refine Calls.mono hq ?_
       rintro e W6 ⟨rfl,k6⟩
       have hF8 := HF7.out.go k6
       have hw := ws_at (w.heap.size + 3) (w.heap.size + 3) ac (ofB t ++ { data := #[10] }) W6 hF8.bld (by
        have : slen (ofB t ++ { data := #[10] }) = t.length + 1 := by rw [slen_app,slen_ofB];rfl
        have e : (ofB t ++ { data := #[10] } : ByteArray).size = slen (ofB t ++ { data := #[10] }) := rfl
        rw [e,this]
        have : 200001 * j ≤ 200001 * 400 := Nat.mul_le_mul_left _ (by omega)
        omega) (by have := hF8.len;omega)
       have hbs : (ofB t ++ { data := #[10] }).data.toList = t ++ [10] := by
        have := bs_app (ofB t) { data := #[10] }
        rw [bs_ofB] at this;exact this
       rw [hbs] at hw
       have HF8 : Hid (PrF w r ac W6) := hF8
       have HW := hw
       clear hbs hF8 hq
       go_wp2_with (go_at_call 29;refine Calls.mono HW ?_)
       rintro e W7 ⟨rfl,h7,b7,_⟩
       have HF9 : Hid (PrF w r (ac ++ (t ++ [10])) W7) := HF8.out.ws b7 h7
       clear h7 b7 HW hw
       go_wp2
       have hfin : ∃ (j' : Nat) (ac' : Bs),Value.int .i64 ((j : Int) + 1) = .int .i64 j' ∧ j' ≤ l.length ∧ PrF w r ac' W7 ∧ ac'.length ≤ 300 + 200001 * j' ∧ Rn.print r l = P2 (l.drop j') ac' :=
        ⟨j + 1,_,by simp,by omega,HF9.out,by simp;omega,by rw [HP.out,HD.out,P2_cons,HZ.out]⟩
       refine ⟨⟨_,_,_,_,_,_,_,_,_,_,hfin,rfl⟩,?_⟩
       simp [intOf];omega
      | none =>
       rw [hz] at hq
       simp only [endT] at hq
       have hbad : Rn.print r l = .bad := by rw [HP.out,HD.out,P2_cons,hz]
       refine Calls.mono hq ?_
       rintro e W6 ⟨rfl,k6⟩
       have hF8 := HF7.out.go k6
       show Leaves Tryz.prog Tryz.f14 _ _ _ (.panicking _) W6
       exact caught14 rfl rfl rfl rfl hF8.txt hF8.cod hF8.old fun w' hw' => ⟨by rw [hbad],hw'⟩
     ·have : j = l.length := by omega
      subst this
      have hp7 : Rn.print r l = if ac.length > 65536 then .long else .ok ac := by
       rw [hp6,List.drop_eq_nil_iff.2 (Nat.le_refl _),P2_nil]
      clear hp6 hel hlt hj
      have hF7 := hF6
      have hlen := (Any.Builder_Len_f lenL (w.heap.size + 3) (w.heap.size + 3) (Lib.byteCells ac) wr hF6.bld)
      rw [Lib.byteCells_length] at hlen
      have hstr := str_at (w.heap.size + 3) (w.heap.size + 3) ac wr hF6.bld (by have := hF6.len;omega)
      have HF6 : Hid (PrF w r ac wr) := hF6
      have HST : Hid (Calls Tryz.prog 34 #[.pointer (some ⟨w.heap.size + 3,0,none⟩)] wr fun e w' => e = .returned (.string ⟨ac.toArray⟩) ∧ Below (w.heap.size + 3) wr w' ∧ Lib.OthersKept 5 (some (w.heap.size + 3)) wr w') := hstr
      clear hstr
      have c1 := load_at hF7.txt
      have c2 := load_at hF7.cod
      have f1 : wr.frozen? ⟨w.heap.size + 1,0,none⟩ = false := by simp [World.frozen?,hF7.txt]
      have f2 : wr.frozen? ⟨w.heap.size + 2,0,none⟩ = false := by simp [World.frozen?,hF7.cod]
      clear hF6 hF7
      by_cases hb : (65536 : Int) < ac.length
      ·rw [if_pos (by omega)] at hp7
       go_wp2_with (go_at_call 33;refine Calls.mono hlen ?_)
       rintro e W7 ⟨rfl,rfl⟩
       go_wp2
       have o1 := HF6.out.old.trans (sc_old W7 (w.heap.size + 1) (.string { data := #[] }) (by omega))
       have t1 := sc_heap W7 (w.heap.size + 1) _ (.string { data := #[] }) 9 HF6.out.txt
       have d1 := (sc_other W7 (w.heap.size + 1) (w.heap.size + 2) (.string { data := #[] }) (by omega)).trans HF6.out.cod
       generalize W7.setCell ⟨w.heap.size + 1,0,none⟩ (.string { data := #[] }) = w5 at *
       have o2 := o1.trans (sc_old w5 (w.heap.size + 2) (.int .i64 2) (by omega))
       have t2 := (sc_other w5 (w.heap.size + 2) (w.heap.size + 1) (.int .i64 2) (by omega)).trans t1
       have d2 := sc_heap w5 (w.heap.size + 2) _ (.int .i64 2) 25 d1
       exact done14 rfl rfl rfl rfl t2 d2 o2 fun w' hw' => ⟨by rw [hp7];rfl,hw'⟩
      ·rw [if_neg (by omega)] at hp7
       go_wp2_with (go_at_call 33;refine Calls.mono hlen ?_)
       refine Calls.mono HST.out ?_
       rintro e W8 ⟨rfl,b8,_⟩
       have HF9 := HF6.out.old.trans ((Old.of b8).weak (by omega))
       have t8 := (b8.block (w.heap.size + 1) (by omega)).trans HF6.out.txt
       have d8 := (b8.block (w.heap.size + 2) (by omega)).trans HF6.out.cod
       have c3 := load_at t8
       have c4 := load_at d8
       have f3 : W8.frozen? ⟨w.heap.size + 1,0,none⟩ = false := by simp [World.frozen?,t8]
       have f4 : W8.frozen? ⟨w.heap.size + 2,0,none⟩ = false := by simp [World.frozen?,d8]
       go_wp2
       have o1 := HF9.trans (sc_old W8 (w.heap.size + 1) (.string ⟨ac.toArray⟩) (by omega))
       have t1 := sc_heap W8 (w.heap.size + 1) _ (.string ⟨ac.toArray⟩) 9 t8
       have d1 := (sc_other W8 (w.heap.size + 1) (w.heap.size + 2) (.string ⟨ac.toArray⟩) (by omega)).trans d8
       generalize W8.setCell ⟨w.heap.size + 1,0,none⟩ (.string ⟨ac.toArray⟩) = w5 at *
       have o2 := o1.trans (sc_old w5 (w.heap.size + 2) (.int .i64 0) (by omega))
       have t2 := (sc_other w5 (w.heap.size + 2) (w.heap.size + 1) (.int .i64 0) (by omega)).trans t1
       have d2 := sc_heap w5 (w.heap.size + 2) _ (.int .i64 0) 25 d1
       exact done14 rfl rfl rfl rfl t2 d2 o2 fun w' hw' => ⟨by rw [hp7];rfl,hw'⟩
end YtnoghchcboiojaaGreatDoor
end Go.Proofs
end
