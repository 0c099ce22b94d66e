/- Texts of the proofs over heraldlaw20, put together by a program (merge20.py): Ev16. -/
import Derived.Test.YtalamcchkkdelaaGreatDoorC6
import Derived.ProofKit
set_option linter.unusedVariables false
set_option linter.unusedSimpArgs false
namespace Go.Ev
def absV (N : Nat) : Value → Value
 | .bool b => .bool b
 | .int k n => .int k n
 | .string s => .string s
 | .pointer none => .pointer none
 | .pointer (some ⟨b,o,none⟩) => if b < N then .pointer (some ⟨b,o,none⟩) else junk
 | .slice none 0 0 => .slice none 0 0
 | .slice (some _) 0 0 => .slice (some ⟨0,0,some 0⟩) 0 0
 | .slice (some ⟨b,o,none⟩) n c => if b < N ∧ n ≤ c then .slice (some ⟨b,o,none⟩) n c else junk
 | .map none => .map none
 | .nilFunc => .nilFunc
 | .nilIface => .nilIface
 | _ => junk
def absA (N : Nat) : Value → Value
 | .agg ⟨cs⟩ => .agg ⟨cs.map (absV N)⟩
 | v => absV N v
def absB (N : Nat) : Obj → Blk
 | .cells c _ _ => .cells (c.toList.map (absV N)) 0 false []
 | _ => .dead
def absH (w : World) : H := w.heap.map (absB w.heap.size)
def ren0 (N : Nat) : Ren := fun b => if b < N then some ⟨b,0,0,0⟩ else none
theorem absV_rel (N : Nat) (v : Value) : VR (ren0 N) (absV N v) v := by
 unfold absV
 split
 ·exact .bool _
 ·exact .int _ _
 ·exact .string _
 ·exact .pnil
 ·rename_i b o
  split
  ·rename_i h
   exact VR.ptr (i := ⟨b,0,0,0⟩) (by simp [ren0,h])
  ·exact .junk _
 ·exact .snil
 ·exact .dang _
 ·rename_i b o n c _
  split
  ·rename_i h
   exact VR.slice (i := ⟨b,0,0,0⟩) (by simp [ren0,h.1]) h.2 (Nat.le_refl _) (by simp) (.inl rfl)
  ·exact .junk _
 ·exact .mnil
 ·exact .fnil
 ·exact .inil
 ·exact .junk _
theorem absV_rels (N : Nat) : ∀ l : List Value,VRs (ren0 N) (l.map (absV N)) l
 | [] => .nil
 | v :: l => .cons (absV_rel N v) (absV_rels N l)
theorem absA_rel (N : Nat) (v : Value) : VR (ren0 N) (absA N v) v := by
 unfold absA
 split
 ·exact .agg (absV_rels N _)
 ·exact absV_rel N _
theorem absA_rels (N : Nat) : ∀ l : List Value,VRs (ren0 N) (l.map (absA N)) l
 | [] => .nil
 | v :: l => .cons (absA_rel N v) (absA_rels N l)
theorem absH_size (w : World) : (absH w).size = w.heap.size := by simp [absH]
theorem absH_live {w : World} {b : Nat} {x : Blk} (h : (absH w)[b]? = some x) : x.isLive = false := by
 simp only [absH,Array.getElem?_map,Option.map_eq_some_iff] at h
 obtain ⟨o,_,rfl⟩ := h
 cases o <;> rfl
theorem absH_ancs {w : World} {b : Nat} {x : Blk} (h : (absH w)[b]? = some x) : x.ancs = [] := by
 simp only [absH,Array.getElem?_map,Option.map_eq_some_iff] at h
 obtain ⟨o,_,rfl⟩ := h
 cases o <;> rfl
structure Vars (w : World) : Prop where
 le : gN ≤ w.heap.size
 tab : ∃ t fr,w.heap[gTab]? = some (.cells (gTabL.map fun z => Value.int .u64 z).toArray t fr)
theorem absH_rel (w : World) (hg : Vars w) : Rel (ren0 w.heap.size) (absH w) w where
 gt := ⟨fun b i x _ _ hx => absH_live hx,hg.tab⟩
 glb := fun g h => by unfold ren0;rw [if_pos (Nat.lt_of_lt_of_le h hg.le)]
 dom := fun b i h => by
  unfold ren0 at h
  split at h
  ·rw [absH_size];assumption
  ·cases h
 bnd := fun b i h => by
  unfold ren0 at h
  split at h
  ·cases h;assumption
  ·cases h
 blk := fun b i x h hx => by
  unfold ren0 at h
  split at h
  ·cases h
   rename_i hb
   simp only [absH,Array.getElem?_map,Option.map_eq_some_iff] at hx
   obtain ⟨o,ho,rfl⟩ := hx
   cases o <;> try trivial
   rename_i c t fr
   refine ⟨rfl,fun j hj => ⟨?_,nofun⟩,fun j v hj => ?_⟩
   ·simp at hj
    simp [World.cell?,ho,hj]
   ·simp only [List.getElem?_map,Option.map_eq_some_iff] at hj
    obtain ⟨u,hu,rfl⟩ := hj
    refine ⟨u,?_,absV_rel _ _⟩
    simp [World.cell?,ho]
    simpa using hu
  ·cases h
 sep := fun b c i j x y hb hc hij hne => by
  unfold ren0 at hb hc
  split at hb
  ·split at hc
   ·cases hb;cases hc;exact absurd hij hne
   ·cases hc
  ·cases hb
 anc := fun b i x a _ hx ha => by rw [absH_ancs hx] at ha;cases ha
theorem old_kept {w w' : World} {ρ' : Ren} {h' : H} (x : Ext (ren0 w.heap.size) (absH w) w ρ' h' w') {b : Nat} (hb : b < w.heap.size) : w'.heap[b]? = w.heap[b]? :=
 x.cf b hb fun _ _ _ _ _ hx => absH_live hx
section
variable {HT : Type} {enc : TypeId × Value → HT} {P : Program}
theorem trodAll_stays (hl : laidOutB P = true) {W W' : World} (hold : ∀ b,b < W.heap.size → W'.heap[b]? = W.heap[b]?) {sp : Nat → Bool} : ∀ {ts : List TypeId},(∀ t ∈ ts,P.readableRec t = true ∧ t < P.types.size) →
  ∀ {vs : List Value} {ds : List (DataW HT)} {ps : List MemPlace},DataW.TrodAll enc P W 0 (fun _ => true) true ts vs ds ps → (∀ x ∈ ps,x.block < W.heap.size) → (∀ x ∈ ps,sp x.block = true) → DataW.TrodAll enc P W' 0 sp true ts vs ds ps
 | [],_,[],[],_,h,_,_ => h
 | t :: ts,hts,v :: vs,d :: ds,ps,h,hlt,hsp => by
  obtain ⟨p,q,h1,h2,rfl⟩ := h
  obtain ⟨r1,r2⟩ := hts t (by simp)
  refine ⟨p,q,WideElems.Trod_stays hl r1 r2 h1 (fun x hx => ?_) (fun x hx => hsp x (by simp [hx])),trodAll_stays hl hold (fun u hu => hts u (by simp [hu])) h2 (fun x hx => hlt x (by simp [hx])) (fun x hx => hsp x (by simp [hx])),rfl⟩
  have hb := hold x.block (hlt x (by simp [hx]))
  cases x with
  | cell b o => exact World.cell?_of_block (w := W) hb
  | map b => exact hb
 | [],_,_ :: _,_,_,h,_,_ => h.elim
 | [],_,[],_ :: _,_,h,_,_ => h.elim
 | _ :: _,_,[],_,_,h,_,_ => h.elim
 | _ :: _,_,_ :: _,[],_,h,_,_ => h.elim
theorem kept_of {W W' : World} (hold : ∀ b,b < W.heap.size → W'.heap[b]? = W.heap[b]?) (hio : W'.os = W.os ∧ W'.output = W.output) (may : MemPlace → Prop) : W.keptBut W' may := by
 refine ⟨hio.1,hio.2,fun i hi => ?_⟩
 rw [hold i hi]
 split <;> simp_all
theorem post_law {f : Func} {s : ChangeSpec} {apart fresh handsOn : Bool} {W W' : World} {args : Array Value} {ds gs : List (DataW HT)} {before : List MemPlace} {t : TypeId}
  (hW : DataW.Whole enc P f.params.toList s.vars apart W args.toList ds gs before) (hl : laidOutB P = true) (hvars : s.vars = [])
  (hs : s.fn HT ds = { results := [.lit (.bool true)],args := ds }) (hr : f.resultTypes = #[t]) (ht : P.underlying t = some .bool)
  (hp : f.params.toList.all (fun t => P.readableRec t && decide (t < P.types.size)) = true)
  (hold : ∀ b,b < W.heap.size → W'.heap[b]? = W.heap[b]?) (hio : W'.os = W.os ∧ W'.output = W.output) :
  s.post enc P f apart fresh handsOn false W args (.bool true) W' := by
 have hlt := hW.lt
 have hW0 := hW
 obtain ⟨p,q,h1,h2,rfl,h3,h4⟩ := hW
 have hp' : ∀ t ∈ f.params.toList,P.readableRec t = true ∧ t < P.types.size := fun t h => by
  have := List.all_eq_true.1 hp t h
  simpa using this
 rw [hvars] at h2
 obtain ⟨rfl,rfl⟩ : gs = [] ∧ q = [] := by
  cases gs with
  | nil => exact ⟨rfl,h2⟩
  | cons _ _ => exact h2.elim
 refine ⟨ds,[],p ++ [],[],p,[],hW0,?_,?_,?_,kept_of hold hio _,nofun⟩
 ·rw [hr,List.append_nil,hs]
  refine ⟨[],[],⟨1,?_⟩,rfl,rfl⟩
  simp [DataW.trod,ht,Value.cells]
 ·rw [List.append_nil,hs]
  exact trodAll_stays hl hold hp' h1 (fun x hx => hlt x (by simp [hx])) (fun x hx => by simpa using hlt x (by simp [hx]))
 ·rw [List.append_nil,hs,hvars]
  rfl
theorem law_calls {f : FuncId} {cf : CF} (hcf : CallOk P cf)  {fn : Func} {s : ChangeSpec} {apart fresh handsOn : Bool} {W : World} {args : Array Value} {ds gs : List (DataW HT)} {before : List MemPlace} {t : TypeId} (hg : Vars W)
  (hW : DataW.Whole enc P fn.params.toList s.vars apart W args.toList ds gs before) (hl : laidOutB P = true) (hvars : s.vars = [])
  (hs : s.fn HT ds = { results := [.lit (.bool true)],args := ds }) (hr : fn.resultTypes = #[t]) (ht : P.underlying t = some .bool)
  (hp : fn.params.toList.all (fun t => P.readableRec t && decide (t < P.types.size)) = true)
  {h' : H} (he : cf f (args.toList.map (absA W.heap.size)) (absH W) = some (.bool true,h')) :
  Calls P f args W fun e W' => ∃ v,e = .returned v ∧ s.post enc P fn apart fresh handsOn false W args v W' := by
 obtain ⟨_,h2⟩ := hcf _ _ _ _ _ he
 refine (h2 (ren0 W.heap.size) W args.toList (absH_rel W hg) (absA_rels _ _)).mono ?_
 rintro e W' (⟨_,v',ρ',rfl,hv,hr',hx⟩ | ⟨x,x',ρ',hp,_⟩)
 case inr => cases hp
 have := hv.bool_inv
 subst this
 exact ⟨_,rfl,post_law hW hl hvars hs hr ht hp (fun b hb => old_kept hx hb) hx.io⟩
end
end Go.Ev
