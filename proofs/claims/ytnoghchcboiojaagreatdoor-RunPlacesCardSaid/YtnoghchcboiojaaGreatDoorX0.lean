/- Texts of the proofs over heraldlaw18, put together by a program (merge18c.py): Sy2 Ks0 Ks1 Ks2 Ks3 Ks4. -/
import Derived.Test.YtnoghchcboiojaaGreatDoorD12
import Derived.Test.YtnoghchcboiojaaGreatDoorD11
import Derived.Test.YtnoghchcboiojaaGreatDoorC15
set_option linter.unusedVariables false
set_option linter.unusedSimpArgs false
section
set_option maxRecDepth 100000
namespace Go.Proofs.YtnoghchcboiojaaGreatDoor
open Go.Ev
open Go.Rn (Bs Ru St)
variable {p : Bool} {F : Nat} {h : H}
def mkOp : Rn.Op := { kind := -7 }
def OvM (h : H) (ov : Value) (ops : List Rn.Op) : Prop := ∃ b c cs,ov = .slice (some ⟨b,0,none⟩) ops.length c ∧ ops.length + 1 ≤ c ∧ cel h b = some cs ∧ (∀ (i : Nat) (o : Rn.Op),(ops ++ [mkOp])[i]? = some o → i * 5 + 5 ≤ cs.length ∧ (cs.drop (i * 5)).take 5 = opC o)
def StM (h : H) (cs : List Value) (s : St) : Prop := ∃ ov,cs = stC s ov ∧ OvM h ov s.ops
def mkSt : List Value := [vi (-7),vi 0,vi 0,vi 0,vs [],.slice none 0 0]
def RM (h : H) (cs : List Value) : Option St → Prop
 | some s => StM h cs s
 | none => cs = mkSt
def CopM (h : H) (v : Value) (l : List St) : Prop := ∃ b c cs,v = .slice (some ⟨b,0,none⟩) l.length c ∧ l.length + 1 ≤ c ∧ cel h b = some cs ∧ (∀ (i : Nat) (x : Option St),(l.map some ++ [none])[i]? = some x → i * 6 + 6 ≤ cs.length ∧ RM h ((cs.drop (i * 6)).take 6) x)
theorem OvM.kept {h g : H} {ov : Value} {ops : List Rn.Op} (q : OvM h ov ops) (k : KeptC h g []) : OvM g ov ops := by
 obtain ⟨b,c,cs,e1,e2,e3,e4⟩ := q
 exact ⟨b,c,cs,e1,e2,(k.2 b (cel_lt e3) (by simp)).trans e3,e4⟩
theorem RM.kept {h g : H} {cs : List Value} {x : Option St} (q : RM h cs x) (k : KeptC h g []) : RM g cs x := by
 cases x with
 | none => exact q
 | some s =>
  obtain ⟨ov,e,q⟩ := q
  exact ⟨ov,e,q.kept k⟩
theorem CopM.kept {h g : H} {v : Value} {l : List St} (q : CopM h v l) (k : KeptC h g []) : CopM g v l := by
 obtain ⟨b,c,cs,e1,e2,e3,e4⟩ := q
 exact ⟨b,c,cs,e1,e2,(k.2 b (cel_lt e3) (by simp)).trans e3,fun i x hx => ⟨(e4 i x hx).1,(e4 i x hx).2.kept k⟩⟩
theorem OvM.sl {h : H} {ov : Value} {ops : List Rn.Op} (q : OvM h ov ops) : SlR (fun _ => True) 5 OpR h ov ops := by
 obtain ⟨b,c,cs,e1,e2,e3,e4⟩ := q
 refine .inr ⟨b,0,c,cs,e1,by omega,trivial,e3,fun i o ho => ?_⟩
 have := e4 i o (by rw [List.getElem?_append_left (List.getElem?_eq_some_iff.1 ho).1];exact ho)
 rw [Nat.zero_add]
 exact this
theorem CopM.sl {h : H} {v : Value} {l : List St} (q : CopM h v l) : SlR (fun _ => True) 6 StE h v l := by
 obtain ⟨b,c,cs,e1,e2,e3,e4⟩ := q
 refine .inr ⟨b,0,c,cs,e1,by omega,trivial,e3,fun i s hs => ?_⟩
 obtain ⟨q1,ov,q2,q3⟩ := e4 i (some s) (by rw [List.getElem?_append_left (by simp;exact (List.getElem?_eq_some_iff.1 hs).1)];simp [hs])
 rw [Nat.zero_add]
 exact ⟨q1,ov,_,q2,q3.sl⟩
theorem opC_one (o : Rn.Op) : ∀ y ∈ opC o,oneCell y = true := by
 intro y hy
 simp only [opC,List.mem_cons,List.not_mem_nil,or_false] at hy
 rcases hy with rfl | rfl | rfl | rfl | rfl <;> rfl
theorem new_one {new : List Value} {ops : List Rn.Op} (e2 : new.length = ops.length * 5) (e3 : ∀ (i : Nat) (x : Rn.Op),ops[i]? = some x → (new.drop (i * 5)).take 5 = opC x) : ∀ y ∈ new,oneCell y = true := by
 intro y hy
 obtain ⟨j,hj⟩ := List.mem_iff_getElem?.1 hy
 have hjl := (List.getElem?_eq_some_iff.1 hj).1
 obtain ⟨x,hx⟩ : ∃ x,ops[j / 5]? = some x := ⟨_,List.getElem?_eq_getElem (by omega)⟩
 have e := e3 _ _ hx
 refine opC_one x y ?_
 rw [← e]
 refine List.mem_iff_getElem?.2 ⟨j % 5,?_⟩
 rw [List.getElem?_take,if_pos (Nat.mod_lt _ (by decide)),List.getElem?_drop,show j / 5 * 5 + j % 5 = j by omega]
 exact hj
theorem marked {g : H} {ok : Nat → Prop} {ov : Value} {ops : List Rn.Op} (s : SlR ok 5 OpR g ov ops) (hl : ops.length * 56 ≤ reachBytes) :
  ∃ new v1 g1 g2 b,srcOf (Ev.newRow g [] 5 []) 5 ov = some (ops.length,new) ∧ appendTo (Ev.newRow g [] 5 []) 5 56 (.slice (some ⟨g.size,0,none⟩) 0 0) ops.length new = some (v1,g1) ∧
   appendTo (Ev.newRow g1 (opC mkOp) 5 []) 5 56 v1 1 (opC mkOp) = some (.slice (some ⟨b,0,none⟩) (ops.length + 1) (ops.length + 1),g2) ∧ isText v1 = false ∧ (∀ y ∈ new,oneCell y = true) ∧ Kept g g2 [] ∧ g.size ≤ b ∧ OvM g2 (.slice (some ⟨b,0,none⟩) ops.length (ops.length + 1)) ops := by
 have k0 := rowKept g [] 5 []
 have s0 := slr_kept s k0 fun _ _ _ q => q
 obtain ⟨new,e1,e2,e3⟩ := s0.src (by decide) fun cs x _ q => by rw [show cs = opC x from q];rfl
 have B0 : Bld (fun b => g.size ≤ b) 5 OpR (Ev.newRow g [] 5 []) (.slice (some ⟨g.size,0,none⟩) 0 0) [] := .inr ⟨g.size,[],[],rfl,⟨Nat.le_refl _,by simp⟩,by simp,rfl,fun i x hx => by simp at hx⟩
 unfold reachBytes at hl
 obtain ⟨v1,g1,a1,a2,a3,_,a4,_⟩ := B0.appN (ys := ops) (bytes := 56) (new := new) e2 (by simp;omega) (by simp) (fun _ _ _ _ _ q => q) fun _ _ i y hy => e3 i y hy
 have z0 : (Ev.newRow g [] 5 []).size = g.size + 1 := by simp
 rw [List.nil_append] at a2
 obtain ⟨v2,g2,c1,c2,c3,c4⟩ := bld_put1 a2 (bytes := 56) (opC mkOp) (x := mkOp) rfl (by omega) (by have := a3.1;omega) (fun _ _ _ _ _ _ q => q) fun _ _ => rfl
 have k1 : Kept g g1 [] := ⟨by have := a3.1;omega,fun b hb _ => (a4 b (by omega) (fun o n c e => by injection e with e;injection e with e;injection e with e;omega)).trans (k0.get hb (by simp))⟩
 have k2 : Kept g g2 [] := ⟨Nat.le_trans k1.1 c3.1,fun b hb _ => (c4 b (Nat.lt_of_lt_of_le hb k1.1) (by omega)).trans (k1.get hb (by simp))⟩
 have ht : isText v1 = false := a2.sl.ne_text
 rcases c2 with ⟨_,e⟩ | ⟨b,cs,an,e,hk,hg,hcl,hi⟩
 ·simp at e
 ·rw [List.length_append,List.length_singleton] at e
  subst e
  refine ⟨new,v1,g1,g2,b,e1,a1,c1,ht,new_one e2 e3,k2,hk.1,b,_,cs,rfl,Nat.le_refl _,cel_of hg,fun i o ho => ⟨?_,hi i o ho⟩⟩
  have := (List.getElem?_eq_some_iff.1 ho).1
  have h5 : (i + 1) * 5 ≤ (ops ++ [mkOp]).length * 5 := Nat.mul_le_mul_right _ this
  omega
set_option maxHeartbeats 1000000 in
theorem copied_spec {ok : Nat → Prop} {v : Value} {l : List St} (hS : SlR ok 6 StE h v l) (ho : ∀ s ∈ l,s.ops.length * 56 ≤ reachBytes) (hl : l.length * 72 ≤ reachBytes) (hF : l.length < F) : Ans (cf p (F + 1) 13 [v] h) fun w h' => Kept h h' [] ∧ CopM h' w l := by
 rw [cf_step (a := a13) rfl rfl (by simp [a13])]
 have lx := hS.len
 unfold reachBytes at hl
 simp (disch := first|omega|(simp only [zS];first|done|omega)) [bB,a13,r13_0,r13_1,r13_2]
 refine loop_rule (fun m e g => ∃ (i : Nat) (lv : Value),i ≤ l.length ∧ m = l.length - i ∧ Kept h g [] ∧ e = [(0,v),(3,lv),(4,vi i)] ∧ Bld (fun b => h.size ≤ b) 6 RM g lv ((l.take i).map some))
  ?_ F (l.length - 0) _ h (by omega) ⟨0,_,by omega,rfl,Kept.refl _ _,rfl,Bld.nil _ _ _ _⟩
 rintro m e g again ⟨i,lv,hi,rfl,hk,rfl,hB⟩ hag
 by_cases hlt : i < l.length
 ·obtain ⟨x,hxi⟩ : ∃ x,l[i]? = some x := ⟨_,List.getElem?_eq_getElem hlt⟩
  obtain ⟨b,o,c,cs,es,lv1,an,rfl,_,hg0,hl1,ov,okx,hr,hox⟩ := hS.at' hxi
  have hg := (hk.get (lt_of_get hg0) (by simp)).trans hg0
  have hlt' : (i : Int) < l.length := by omega
  have wi : IntKind.i64.wrap ((i : Int) + 1) = (i : Int) + 1 := wrap_in (by omega) (by omega)
  have one := hox.one
  have ol := hox.len
  have hx56 := ho x (List.mem_of_getElem? hxi)
  have kb := rowKept g (stC x ov) 0 []
  have hb : hget (Ev.newRow g (stC x ov) 0 []) g.size = some (.cells (stC x ov) 0 true []) := by simp
  have z1 : (Ev.newRow g (stC x ov) 0 []).size = g.size + 1 := by simp
  have kk := hk.trans kb
  have hox1 := slr_kept hox kk fun _ _ _ q => q
  have hB1 := hB.kept kb (by simp) fun cs y _ q => RM.kept q kb.c
  have hlen6 : (stC x ov).length = 6 := rfl
  obtain ⟨new,v1,g1,g2,bo,a1,a2,a3,a4,a45,a5,abo,a6⟩ := marked hox1 hx56
  have hb2 := (a5.get (b := g.size) (by omega) (by simp)).trans hb
  have one2 := one
  unfold oneCell at one2 a45
  have a46 := eq_true a45
  have ntx := hox.ne_text
  unfold isText at ntx a4
  have eqz : Ev.newRow g [vi x.kind,vi x.a,vi x.b,vi x.c,vs x.place,ov] 0 [] = Ev.newRow g (stC x ov) 0 [] := rfl
  have hbs := lt_of_get hb2
  simp (disch := first|omega|(simp only [zS];first|done|omega)) [bB,l13_9,r13_3,lx,hlt',r13_4,hg,hl1,hr,stC,one2,r13_5,ol]
  rw [eqz]
  generalize Ev.newRow g (stC x ov) 0 [] = g0 at *
  have hb' := hb
  simp only [stC] at hb' hb2
  have eqm : ∀ g,Ev.newRow g [vi (-7),.string { data := #[] },.string { data := #[] },vi 0,vi 0] 5 [] = Ev.newRow g (opC mkOp) 5 [] := fun g => rfl
  have eqo : opC mkOp = [vi (-7),.string { data := #[] },.string { data := #[] },vi 0,vi 0] := rfl
  rw [eqo] at a3
  simp (disch := first|omega|(simp only [zS];first|done|omega)) [bB,r13_6,hb',a1,a2,a3,a4,a46,ntx]
  have hlt5 : x.ops.length ≤ x.ops.length + 1 := by omega
  simp (disch := first|omega|(simp only [zS];first|done|omega)) [bB,srcOf,isText,a3,a4,hb2]
  have k3 : Kept g (g2.setIfInBounds g.size (.cells (stC x (.slice (some ⟨bo,0,none⟩) x.ops.length (x.ops.length + 1))) 0 true [])) [] := kept_set (kb.trans a5) (Nat.le_refl _)
  have b3 : hget (g2.setIfInBounds g.size (.cells (stC x (.slice (some ⟨bo,0,none⟩) x.ops.length (x.ops.length + 1))) 0 true [])) g.size = some (.cells (stC x (.slice (some ⟨bo,0,none⟩) x.ops.length (x.ops.length + 1))) 0 true []) := by simp [hbs]
  have a7 : OvM (g2.setIfInBounds g.size (.cells (stC x (.slice (some ⟨bo,0,none⟩) x.ops.length (x.ops.length + 1))) 0 true [])) (.slice (some ⟨bo,0,none⟩) x.ops.length (x.ops.length + 1)) x.ops := by
   obtain ⟨b',c',cs',e1,e2,e3,e4⟩ := a6
   injection e1 with e1 _ e1'
   injection e1 with e1
   injection e1 with e1
   subst e1
   refine ⟨bo,_,cs',rfl,by omega,?_,e4⟩
   rw [← e3]
   exact cel_congr (set_other (by omega))
  have eqs : ∀ g4 : H,g4.setIfInBounds g.size (.cells [vi x.kind,vi x.a,vi x.b,vi x.c,vs x.place,.slice (some ⟨bo,0,none⟩) x.ops.length (x.ops.length + 1)] 0 true []) = g4.setIfInBounds g.size (.cells (stC x (.slice (some ⟨bo,0,none⟩) x.ops.length (x.ops.length + 1))) 0 true []) := fun _ => rfl
  rw [eqs]
  have hB3 := hB.kept k3 (by simp) fun cs y _ q => RM.kept q k3.c
  generalize g2.setIfInBounds g.size (.cells (stC x (.slice (some ⟨bo,0,none⟩) x.ops.length (x.ops.length + 1))) 0 true []) = g3 at *
  have kk3 := hk.trans k3
  have hs3 := kk3.1
  obtain ⟨v5,g5,c1,c2,c3,c4⟩ := bld_put1 hB3 (bytes := 72) (stC x (.slice (some ⟨bo,0,none⟩) x.ops.length (x.ops.length + 1))) (x := some x) rfl (by simp;omega) (by omega) (fun h1 h2 k cs y _ q => RM.kept q k) fun h' k => ⟨_,rfl,a7.kept k⟩
  have k5 : Kept h g5 [] := ⟨Nat.le_trans hs3 c3.1,fun b hb _ => (c4 b (Nat.lt_of_lt_of_le hb hs3) (by omega)).trans (kk3.2 b hb (by simp))⟩
  simp only [stC] at b3 c1
  simp (disch := first|omega|(simp only [zS];first|done|omega)) [bB,r13_7,b3,srcOf,isText,c1,r13_8,wi]
  exact hag (l.length - (i + 1)) [(0,_),(3,v5),(4,vi ((i : Int) + 1))] _ (by omega) ⟨i + 1,v5,by omega,rfl,k5,rfl,by rw [List.take_add_one,hxi];simpa using c2⟩
 ·have : i = l.length := by omega
  subst this
  rw [List.take_length] at hB
  have ln := hB.sl.len
  obtain ⟨v5,g5,c1,c2,c3,c4⟩ := bld_put1 hB (bytes := 72) mkSt (x := none) rfl (by simp;omega) (by have := hk.1;omega) (fun h1 h2 k cs y _ q => RM.kept q k) fun h' k => rfl
  have k5 : Kept h g5 [] := ⟨Nat.le_trans hk.1 c3.1,fun b hb _ => (c4 b (Nat.lt_of_lt_of_le hb hk.1) (by omega)).trans (hk.2 b hb (by simp))⟩
  have ntx := hB.sl.ne_text
  unfold isText at ntx
  rcases c2 with ⟨_,e⟩ | ⟨b,cs,an,e,hk',hg,hcl,hi'⟩
  ·simp at e
  ·rw [List.length_append,List.length_map,List.length_singleton] at e
   subst e
   rw [List.length_map] at ln
   have eqk : mkSt = [vi (-7),vi 0,vi 0,vi 0,.string { data := #[] },.slice none 0 0] := rfl
   rw [eqk] at c1
   simp (disch := first|omega|(simp only [zS];first|done|omega)) [bB,l13_9,r13_3,lx,r13_10,ln,r13_11,srcOf,isText,c1,ntx,r13_12]
   refine Ans.of ⟨k5,b,_,cs,rfl,Nat.le_refl _,cel_of hg,fun i x hx => ⟨?_,hi' i x hx⟩⟩
   have := (List.getElem?_eq_some_iff.1 hx).1
   have h5 : (i + 1) * 6 ≤ (l.map some ++ [none]).length * 6 := Nat.mul_le_mul_right _ this
   omega
end Go.Proofs.YtnoghchcboiojaaGreatDoor
end
namespace Go.Ev
abbrev Col := Nat
abbrev Kp := Nat → Col
def ext (κ : Kp) (n : Nat) (t : Col) : Kp := fun c => if c < n then κ c else t
theorem ext_lt {κ : Kp} {n : Nat} {t : Col} {c : Nat} (h : c < n) : ext κ n t c = κ c := by simp [ext,h]
theorem ext_ge {κ : Kp} {n : Nat} {t : Col} {c : Nat} (h : n ≤ c) : ext κ n t c = t := by simp [ext];omega
def Agr (n : Nat) (κ κ' : Kp) : Prop := ∀ c,c < n → κ' c = κ c
theorem Agr.refl (n : Nat) (κ : Kp) : Agr n κ κ := fun _ _ => rfl
theorem Agr.trans {n m : Nat} {κ κ1 κ2 : Kp} (a : Agr n κ κ1) (b : Agr m κ1 κ2) (h : n ≤ m) : Agr n κ κ2 := fun c hc => (b c (Nat.lt_of_lt_of_le hc h)).trans (a c hc)
theorem Agr.ext {n m : Nat} {t : Col} {κ : Kp} (h : n ≤ m) : Agr n κ (ext κ m t) := fun c hc => ext_lt (Nat.lt_of_lt_of_le hc h)
def Ch (κ : Kp) (S : Col → Prop) (g g' : H) : Prop := g.size ≤ g'.size ∧ ∀ c,c < g.size → ¬ S (κ c) → hget g' c = hget g c
def no : Col → Prop := fun _ => False
theorem Ch.refl (κ : Kp) (S : Col → Prop) (g : H) : Ch κ S g g := ⟨Nat.le_refl _,fun _ _ _ => rfl⟩
theorem Ch.of {κ : Kp} {S : Col → Prop} {g g' : H} (k : Kept g g' []) : Ch κ S g g' := ⟨k.1,fun c hc _ => k.get hc (by simp)⟩
theorem Ch.ofL {κ : Kp} {S : Col → Prop} {g g' : H} {L : List Nat} (k : Kept g g' L) (hL : ∀ c ∈ L,S (κ c)) : Ch κ S g g' := ⟨k.1,fun c hc hn => k.get hc (fun q => hn (hL c q))⟩
theorem Ch.trans {κ κ' : Kp} {S : Col → Prop} {g g1 g2 : H} (a : Ch κ S g g1) (b : Ch κ' S g1 g2) (hk : Agr g.size κ κ') : Ch κ S g g2 := ⟨Nat.le_trans a.1 b.1,fun c hc hn =>
 (b.2 c (Nat.lt_of_lt_of_le hc a.1) (by rw [hk c hc];exact hn)).trans (a.2 c hc hn)⟩
theorem Ch.weak {κ : Kp} {S S' : Col → Prop} {g g' : H} (a : Ch κ S g g') (h : ∀ c,S c → S' c) : Ch κ S' g g' := ⟨a.1,fun c hc hn => a.2 c hc (fun q => hn (h _ q))⟩
theorem Ch.get {κ : Kp} {S : Col → Prop} {g g' : H} (k : Ch κ S g g') {c : Nat} {x : Blk} (h : hget g c = some x) (hn : ¬ S (κ c)) : hget g' c = some x := (k.2 c (lt_of_get h) hn).trans h
theorem Ch.cel {κ : Kp} {S : Col → Prop} {g g' : H} (k : Ch κ S g g') {c : Nat} {cs : List Value} (h : cel g c = some cs) (hn : ¬ S (κ c)) : cel g' c = some cs := (cel_congr (k.2 c (cel_lt h) hn)).trans h
abbrev PrC : H → List Value → (List Value → Prop) → Prop := fun _ cs p => p cs
def Fr (ok : Nat → Prop) (h h' : H) : Prop := h.size ≤ h'.size ∧ ∀ c,c < h.size → ¬ ok c → hget h' c = hget h c
theorem Fr.refl (ok : Nat → Prop) (h : H) : Fr ok h h := ⟨Nat.le_refl _,fun _ _ _ => rfl⟩
theorem Fr.get {ok : Nat → Prop} {h h' : H} (k : Fr ok h h') {c : Nat} {x : Blk} (e : hget h c = some x) (hn : ¬ ok c) : hget h' c = some x := (k.2 c (lt_of_get e) hn).trans e
section
variable {α β : Type} {ok ok' : Nat → Prop} {w : Nat} {R R2 : H → List Value → α → Prop} {R' : H → List Value → β → Prop} {h h' : H} {v : Value} {xs : List α} {κ κ' : Kp} {S : Col → Prop} {col : Col}
theorem Bld.to' {ys : List β} (s : Bld ok w R h v xs) (hz : h.size ≤ h'.size) (hl : ys.length = xs.length) (hok : ∀ c,c < h.size → ok c → ok' c) (hg : ∀ c x,hget h c = some x → ok c → hget h' c = some x)
  (hR : ∀ cs (i : Nat) x y,xs[i]? = some x → ys[i]? = some y → R h cs x → R' h' cs y) : Bld ok' w R' h' v ys := by
 rcases s with ⟨e,e'⟩ | ⟨b,cs,an,e,⟨hk,ha⟩,hb,hcl,hi⟩
 ·subst e'
  exact .inl ⟨e,List.length_eq_zero_iff.1 hl⟩
 ·have hs := lt_of_get hb
  refine .inr ⟨b,cs,an,by rw [hl];exact e,⟨hok b hs hk,fun a q => ⟨hok a (Nat.lt_trans (ha a q).2 hs) (ha a q).1,(ha a q).2⟩⟩,hg b _ hb hk,by rw [hl];exact hcl,fun i y hy => ?_⟩
  have hi' := (List.getElem?_eq_some_iff.1 hy).1
  obtain ⟨x,hx⟩ : ∃ x,xs[i]? = some x := ⟨_,List.getElem?_eq_getElem (by omega)⟩
  exact hR _ i x y hx hy (hi i x hx)
theorem Bld.tr (s : Bld (fun c => κ c = col) w R h v xs) (k : Ch κ S h h') (hS : ¬ S col) (hk : Agr h.size κ κ')
  (hR : ∀ cs (i : Nat) x,xs[i]? = some x → R h cs x → R2 h' cs x) : Bld (fun c => κ' c = col) w R2 h' v xs :=
 s.to' k.1 rfl (fun c hc q => (hk c hc).trans q) (fun c x e q => k.get e (by rw [q];exact hS)) (fun cs i x y hx hy q => by rw [hx] at hy;cases hy;exact hR cs i x hx q)
theorem SlR.trC {R2 : H → List Value → α → Prop} (s : SlR (fun c => κ c = col) w R h v xs) (k : Ch κ S h h') (hS : ¬ S col) (hk : Agr h.size κ κ') (hR : ∀ cs,∀ x ∈ xs,R h cs x → R2 h' cs x) : SlR (fun c => κ' c = col) w R2 h' v xs :=
 s.imp (fun c hc q => (hk c hc).trans q) hR (fun c cs q e => k.cel e (by rw [q];exact hS))
theorem Bld.appF {bytes : Nat} (s : Bld ok w R h v xs) {new : List Value} {ys : List α} (hn : new.length = ys.length * w) (hb : (xs.length + ys.length) * bytes ≤ 2 ^ 47)
  (hok : ok h.size) (hR : ∀ h',Fr ok h h' → ∀ cs (i : Nat) y,xs[i]? = some y → R h cs y → R2 h' cs y) (hx : ∀ h',Fr ok h h' → ∀ (i : Nat) (y : α),ys[i]? = some y → R2 h' ((new.drop (i * w)).take w) y) :
  Ans (appendTo h w bytes v ys.length new) fun v' h' => Bld ok w R2 h' v' (xs ++ ys) ∧ Fr ok h h' ∧ KeptC h h' [] := by
 by_cases hz : ys.length = 0
 ·have hys : ys = [] := List.length_eq_zero_iff.1 hz
  subst hys
  have e : appendTo h w bytes v 0 new = some (v,h) := by
   rcases s with ⟨rfl,rfl⟩ | ⟨b,cs,an,rfl,_⟩ <;> simp [appendTo]
  exact ⟨v,h,e,by simpa using s.to' (Nat.le_refl _) rfl (fun _ _ q => q) (fun _ _ e _ => e) (fun cs i x y hx hy q => by rw [hx] at hy;cases hy;exact hR h (Fr.refl _ _) cs i x hx q),Fr.refl _ _,KeptC.refl _ _⟩
 rcases s with ⟨rfl,rfl⟩ | ⟨b,cs,an,rfl,⟨hk,ha⟩,hg,hl,hi⟩
 ·have kc : KeptC h (newRow h new w []) [] := ⟨by simp,fun c hc _ => cel_congr (by simp [hc])⟩
  have fr : Fr ok h (newRow h new w []) := ⟨by simp,fun c hc _ => by simp [hc]⟩
  have hb' : ys.length * bytes ≤ 140737488355328 := by simpa using hb
  have hz' : ¬ ys = [] := fun e => hz (by rw [e];rfl)
  refine ⟨.slice (some ⟨h.size,0,none⟩) ys.length ys.length,newRow h new w [],?_,?_,fr,kc⟩
  ·simp [appendTo,hb',hz']
  ·exact .inr ⟨h.size,new,[],rfl,⟨hok,by simp⟩,by simp,by simpa using hn,fun i y hy => hx _ fr i y (by simpa using hy)⟩
 ·have hbs := lt_of_get hg
  have kc : KeptC h (newRow (h.setIfInBounds b (.cells cs w false an)) (cs ++ new) w (b :: an)) [] := by
   refine ⟨by simp,fun c hc _ => ?_⟩
   by_cases e : b = c
   ·subst e
    rw [cel_of hg]
    exact cel_of (es := w) (lv := false) (an := an) (by simp [hbs])
   ·exact cel_congr (by simp [hc,e])
  have fr : Fr ok h (newRow (h.setIfInBounds b (.cells cs w false an)) (cs ++ new) w (b :: an)) := ⟨by simp,fun c hc hn => by
   have e : ¬ b = c := fun e => hn (e ▸ hk)
   simp [hc,e]⟩
  have e2 : cs.take (xs.length * w) = cs := List.take_of_length_le (by omega)
  refine ⟨.slice (some ⟨h.size,0,none⟩) (xs.length + ys.length) (xs.length + ys.length),newRow (h.setIfInBounds b (.cells cs w false an)) (cs ++ new) w (b :: an),?_,?_,fr,kc⟩
  ·have hb' : (xs.length + ys.length) * bytes ≤ 140737488355328 := by simpa using hb
   have hz' : ¬ ys = [] := fun e => hz (by rw [e];rfl)
   have hnl : ¬ xs.length + ys.length ≤ xs.length := by omega
   simp [appendTo,hb',hg,hl,e2,hnl,hz']
  ·refine .inr ⟨h.size,cs ++ new,b :: an,by simp,⟨hok,?_⟩,by simp,by simp [hl,hn,Nat.add_mul],?_⟩
   ·intro a q
    rcases List.mem_cons.1 q with rfl | q
    ·exact ⟨hk,hbs⟩
    ·exact ⟨(ha a q).1,Nat.lt_trans (ha a q).2 hbs⟩
   ·intro i y hy
    by_cases hi' : i < xs.length
    ·rw [List.getElem?_append_left hi'] at hy
     rw [drop_take_append cs new xs.length w i hl hi']
     exact hR _ fr _ i _ hy (hi i y hy)
    ·rw [List.getElem?_append_right (by omega)] at hy
     have := take_in_end cs new xs.length w (i - xs.length) hl
     rw [show xs.length + (i - xs.length) = i by omega] at this
     rw [this]
     exact hx _ fr _ _ hy
theorem Bld.appC {bytes : Nat} (s : Bld (fun c => κ c = col) w R h v xs) {new : List Value} (x : α) (hw : new.length = w) (hb : (xs.length + 1) * bytes ≤ 2 ^ 47)
  (hR : ∀ h',Ch κ (· = col) h h' → ∀ cs (i : Nat) y,xs[i]? = some y → R h cs y → R2 h' cs y) (hx : ∀ h',Ch κ (· = col) h h' → R2 h' new x) :
  Ans (appendTo (newRow h new w []) w bytes v 1 new) fun v' h' => Bld (fun c => ext κ h.size col c = col) w R2 h' v' (xs ++ [x]) ∧ Ch κ (· = col) h h' ∧ KeptC h h' [] := by
 have k := rowKept h new w []
 have z : (newRow h new w []).size = h.size + 1 := by simp
 have go : ∀ h',Fr (fun c => ext κ h.size col c = col) (newRow h new w []) h' → Ch κ (· = col) h h' := fun h' f => ⟨by have := f.1;omega,fun c hc hn => (f.2 c (by omega) (by show ¬ ext κ h.size col c = col;rw [ext_lt hc];exact hn)).trans (k.get hc (by simp))⟩
 have s1 : Bld (fun c => ext κ h.size col c = col) w (fun _ cs y => ∃ i : Nat,xs[i]? = some y ∧ R h cs y) (newRow h new w []) v xs := s.to' (by omega) rfl (fun c hc q => by rw [ext_lt hc];exact q) (fun c x e _ => (k.get (lt_of_get e) (by simp)).trans e) (fun cs i x y hx hy q => by rw [hx] at hy;cases hy;exact ⟨i,hx,q⟩)
 refine (s1.appF (R2 := R2) (ys := [x]) (bytes := bytes) (by simpa using hw) (by simpa using hb) (by rw [z];exact ext_ge (by omega)) (fun h' f cs i y hy ⟨j,hj,q⟩ => hR h' (go h' f) cs j y hj q) (fun h' f i y hy => ?_)).mono ?_
 ·cases i with
  | succ i => simp at hy
  | zero =>
   simp at hy
   subst hy
   rw [Nat.zero_mul,List.drop_zero,List.take_of_length_le (by omega)]
   exact hx h' (go h' f)
 ·rintro v' h' ⟨b5,f5,c5⟩
  exact ⟨b5,go h' f5,k.c.trans c5⟩
theorem splice_elem (cs new : List Value) {w n i j o : Nat} (hl : cs.length = n * w) (hi : i < n) (ho : o + new.length ≤ w) (hj : j < n) :
  (((cs.take (i * w + o) ++ new ++ cs.drop (i * w + o + new.length)).drop (j * w)).take w) = if j = i then ((cs.drop (i * w)).take w).take o ++ new ++ ((cs.drop (i * w)).take w).drop (o + new.length) else (cs.drop (j * w)).take w := by
 have h1 : (i + 1) * w ≤ n * w := Nat.mul_le_mul_right _ hi
 have h2 : (j + 1) * w ≤ n * w := Nat.mul_le_mul_right _ hj
 rw [Nat.add_mul] at h1 h2
 have hle : i * w + o + new.length ≤ cs.length := by omega
 have hel : ((cs.drop (i * w)).take w).length = w := by rw [List.length_take,List.length_drop];omega
 apply List.ext_getElem?
 intro t
 by_cases ht : t < w
 ·rw [List.getElem?_take,if_pos ht,List.getElem?_drop,splice_get cs new _ _ hle]
  by_cases e : j = i
  ·subst e
   rw [if_pos rfl]
   have := splice_get ((cs.drop (j * w)).take w) new o t (by omega)
   rw [this]
   by_cases c1 : t < o
   ·rw [if_pos (by omega),if_pos c1,List.getElem?_take,if_pos ht,List.getElem?_drop]
   ·rw [if_neg (by omega),if_neg c1]
    by_cases c2 : t < o + new.length
    ·rw [if_pos (by omega),if_pos c2];congr 1;omega
    ·rw [if_neg (by omega),if_neg c2,List.getElem?_take,if_pos ht,List.getElem?_drop]
  ·rw [if_neg e,List.getElem?_take,if_pos ht,List.getElem?_drop]
   rcases Nat.lt_or_gt_of_ne e with c | c
   ·have : (j + 1) * w ≤ i * w := Nat.mul_le_mul_right _ c
    rw [Nat.add_mul] at this
    rw [if_pos (by omega)]
   ·have : (i + 1) * w ≤ j * w := Nat.mul_le_mul_right _ c
    rw [Nat.add_mul] at this
    rw [if_neg (by omega),if_neg (by omega)]
 ·rw [List.getElem?_eq_none (by rw [List.length_take];omega)]
  split
  ·rw [List.getElem?_eq_none (by simp [hel];omega)]
  ·rw [List.getElem?_eq_none (by rw [List.length_take];omega)]
theorem Bld.put (s : Bld ok w R h v xs) {i o : Nat} {x : α} (hx : xs[i]? = some x) {new : List Value} (ho : o + new.length ≤ w) (hone : new.all oneCell = true) :
  ∃ b cs an h',v = .slice (some ⟨b,0,none⟩) xs.length xs.length ∧ hget h b = some (.cells cs w true an) ∧ i * w + w ≤ cs.length ∧ ok b ∧ R h ((cs.drop (i * w)).take w) x ∧ wr h b (i * w + o) new = some h' ∧ h'.size = h.size ∧ Fr ok h h' ∧
   ∀ {R2 : H → List Value → α → Prop} (y : α),(∀ cs (j : Nat) z,xs[j]? = some z → j ≠ i → R h cs z → R2 h' cs z) → (R2 h' (((cs.drop (i * w)).take w).take o ++ new ++ ((cs.drop (i * w)).take w).drop (o + new.length)) y) → Bld ok w R2 h' v (xs.set i y) := by
 have hil := (List.getElem?_eq_some_iff.1 hx).1
 rcases s with ⟨_,e'⟩ | ⟨b,cs,an,e,⟨hk,ha⟩,hg,hl,hi⟩
 ·subst e';simp at hil
 ·have h1 : (i + 1) * w ≤ xs.length * w := Nat.mul_le_mul_right _ hil
  rw [Nat.add_mul] at h1
  have hbs := lt_of_get hg
  have hg' : h[b]? = some (.cells cs w true an) := hg
  have hle : i * w + o + new.length ≤ cs.length := by omega
  have hkz : (kill h an).size = h.size := kill_size _ _
  refine ⟨b,cs,an,(kill h an).setIfInBounds b (.cells (cs.take (i * w + o) ++ new ++ cs.drop (i * w + o + new.length)) w true []),e,hg,by omega,hk,hi i x hx,?_,by simp [hkz],⟨by simp [hkz],?_⟩,?_⟩
  ·unfold wr
   rw [hg']
   simp only [hle,hone,and_self,if_true]
  ·intro c hc hn
   have e1 : ¬ b = c := fun q => hn (q ▸ hk)
   have e2 : c ∉ an := fun q => hn (ha c q).1
   rw [set_other e1]
   show (kill h an)[c]? = h[c]?
   rw [kill_get,if_neg (fun q => e2 q.1)]
  ·intro R2 y hR hy
   have e3 : hget ((kill h an).setIfInBounds b (.cells (cs.take (i * w + o) ++ new ++ cs.drop (i * w + o + new.length)) w true [])) b = some (.cells (cs.take (i * w + o) ++ new ++ cs.drop (i * w + o + new.length)) w true []) := set_self rfl (by rw [hkz];exact hbs)
   refine .inr ⟨b,_,[],by rw [List.length_set];exact e,⟨hk,by simp⟩,e3,?_,?_⟩
   ·rw [List.length_set,← hl]
    simp
    omega
   ·intro j z hz
    have hjl := (List.getElem?_eq_some_iff.1 hz).1
    rw [List.length_set] at hjl
    rw [splice_elem cs new hl hil ho hjl]
    by_cases ej : j = i
    ·subst ej
     rw [List.getElem?_set_self hil] at hz
     cases hz
     rw [if_pos rfl]
     exact hy
    ·rw [List.getElem?_set_ne (fun q => ej q.symm)] at hz
     rw [if_neg ej]
     exact hR _ j z hz ej (hi j z hz)
end
end Go.Ev
section
set_option maxRecDepth 100000
namespace Go.Proofs.YtnoghchcboiojaaGreatDoor
open Go.Ev
open Go.Rn (Bs Ru St)
variable {p : Bool} {F : Nat} {h : H}
def OvO (κ : Kp) (col : Col) (h : H) (ov : Value) (ops : List Rn.Op) : Prop :=
 (ov = .slice none 0 0 ∧ ops = []) ∨ ∃ b,ov = .slice (some ⟨b,0,none⟩) ops.length (ops.length + 1) ∧ Bld (fun c => κ c = col) 5 OpR h (.slice (some ⟨b,0,none⟩) (ops.length + 1) (ops.length + 1)) (ops ++ [mkOp])
def ElW (κ : Kp) (h : H) (cs : List Value) (x : Option St × Col) : Prop := match x.1 with
 | none => cs = mkSt
 | some s => ∃ ov,cs = stC s ov ∧ OvO κ x.2 h ov s.ops
def elw (l : List St) : List (Option St × Col) := l.mapIdx fun k s => (some s,2 + k)
def XW (κ : Kp) (h : H) (v : Value) (l : List St) : Prop :=
 ∃ b,v = .slice (some ⟨b,0,none⟩) l.length (l.length + 1) ∧ Bld (fun c => κ c = 1) 6 (ElW κ) h (.slice (some ⟨b,0,none⟩) (l.length + 1) (l.length + 1)) (elw l ++ [(none,0)])
theorem elw_len (l : List St) : (elw l).length = l.length := by simp [elw]
theorem elw_get (l : List St) (i : Nat) : (elw l)[i]? = l[i]?.map fun s => (some s,2 + i) := by simp [elw]
theorem elw_snoc (l : List St) (s : St) : elw (l ++ [s]) = elw l ++ [(some s,2 + l.length)] := by simp [elw,List.mapIdx_append]
theorem OvO.tr {κ κ' : Kp} {S : Col → Prop} {col : Col} {g g' : H} {ov : Value} {ops : List Rn.Op} (s : OvO κ col g ov ops) (k : Ch κ S g g') (hS : ¬ S col) (hk : Agr g.size κ κ') : OvO κ' col g' ov ops := by
 rcases s with s | ⟨b,e,s⟩
 ·exact .inl s
 ·exact .inr ⟨b,e,s.tr k hS hk fun _ _ _ _ q => q⟩
theorem ElW.tr {κ κ' : Kp} {S : Col → Prop} {g g' : H} {cs : List Value} {x : Option St × Col} (s : ElW κ g cs x) (k : Ch κ S g g') (hS : x.1.isSome = true → ¬ S x.2) (hk : Agr g.size κ κ') : ElW κ' g' cs x := by
 obtain ⟨o,c⟩ := x
 cases o with
 | none => exact s
 | some s0 =>
  obtain ⟨ov,e,q⟩ := s
  exact ⟨ov,e,q.tr k (hS rfl) hk⟩
theorem OvO.sl {κ : Kp} {col : Col} {g : H} {ov : Value} {ops : List Rn.Op} (s : OvO κ col g ov ops) : SlR (fun c => κ c = col) 5 OpR g ov ops := by
 rcases s with ⟨e,e'⟩ | ⟨b,e,s⟩
 ·exact .inl ⟨.inl e,e'⟩
 ·rcases s with ⟨e',_⟩ | ⟨b',cs,an,e',hk,hg,hl,hi⟩
  ·cases e'
  ·injection e' with e1
   injection e1 with e1
   injection e1 with e1
   subst e1
   refine .inr ⟨b,0,_,cs,e,Nat.le_succ _,hk.1,cel_of hg,fun i o ho => ?_⟩
   have hi' := (List.getElem?_eq_some_iff.1 ho).1
   rw [List.length_append,List.length_singleton] at hl
   have h5 : (i + 1) * 5 ≤ (ops.length + 1) * 5 := Nat.mul_le_mul_right _ (by omega)
   rw [Nat.zero_add]
   exact ⟨by omega,hi i o (by rw [List.getElem?_append_left hi'];exact ho)⟩
theorem XW.row {κ : Kp} {g : H} {v : Value} {l : List St} (s : XW κ g v l) : ∃ b cs an,v = .slice (some ⟨b,0,none⟩) l.length (l.length + 1) ∧ κ b = 1 ∧ hget g b = some (.cells cs 6 true an) ∧ cs.length = (l.length + 1) * 6 ∧ ∀ (i : Nat) (x : St),l[i]? = some x → ElW κ g ((cs.drop (i * 6)).take 6) (some x,2 + i) := by
 obtain ⟨b,rfl,s⟩ := s
 rcases s with ⟨e',_⟩ | ⟨b',cs,an,e',hk,hg,hl,hi⟩
 ·cases e'
 ·injection e' with e1
  injection e1 with e1
  injection e1 with e1
  subst e1
  rw [List.length_append,List.length_singleton,elw_len] at hl
  refine ⟨b,cs,an,rfl,hk.1,hg,hl,fun i x hx => hi i _ ?_⟩
  have hi' := (List.getElem?_eq_some_iff.1 hx).1
  rw [List.getElem?_append_left (by rw [elw_len];exact hi'),elw_get,hx]
  rfl
theorem XW.sl {κ : Kp} {g : H} {v : Value} {l : List St} (s : XW κ g v l) : SlR (fun c => κ c = 1) 6 StE g v l := by
 obtain ⟨b,cs,an,rfl,hk,hg,hl,hi⟩ := s.row
 refine .inr ⟨b,0,_,cs,rfl,Nat.le_succ _,hk,cel_of hg,fun i x hx => ?_⟩
 have hi' := (List.getElem?_eq_some_iff.1 hx).1
 have h6 : (i + 1) * 6 ≤ (l.length + 1) * 6 := Nat.mul_le_mul_right _ (by omega)
 rw [Nat.zero_add]
 obtain ⟨ov,e,q⟩ := hi i x hx
 exact ⟨by omega,ov,_,e,q.sl⟩
theorem XW.tr {κ κ' : Kp} {S : Col → Prop} {g g' : H} {v : Value} {l : List St} (s : XW κ g v l) (k : Ch κ S g g') (h1 : ¬ S 1) (h2 : ∀ i,i < l.length → ¬ S (2 + i)) (hk : Agr g.size κ κ') : XW κ' g' v l := by
 obtain ⟨b,e,s⟩ := s
 refine ⟨b,e,s.tr k h1 hk fun cs i x hx q => q.tr k (fun hs => ?_) hk⟩
 by_cases hi : i < l.length
 ·rw [List.getElem?_append_left (by rw [elw_len];exact hi),elw_get] at hx
  obtain ⟨y,hy,rfl⟩ := Option.map_eq_some_iff.1 hx
  exact h2 i hi
 ·rw [List.getElem?_append_right (by rw [elw_len];omega)] at hx
  have := List.mem_of_getElem? hx
  rw [List.mem_singleton] at this
  subst this
  cases hs
theorem XW.kept {κ : Kp} {g g' : H} {v : Value} {l : List St} (s : XW κ g v l) (k : Kept g g' []) : XW κ g' v l :=
 s.tr (Ch.of k (S := no)) (fun q => q) (fun _ _ q => q) (Agr.refl _ _)
theorem markedC {g : H} {ok : Nat → Prop} {ov : Value} {ops : List Rn.Op} (s : SlR ok 5 OpR g ov ops) (hl : ops.length * 56 ≤ reachBytes) :
  ∃ new v1 g1 g2 b,srcOf (Ev.newRow g [] 5 []) 5 ov = some (ops.length,new) ∧ appendTo (Ev.newRow g [] 5 []) 5 56 (.slice (some ⟨g.size,0,none⟩) 0 0) ops.length new = some (v1,g1) ∧
   appendTo (Ev.newRow g1 (opC mkOp) 5 []) 5 56 v1 1 (opC mkOp) = some (.slice (some ⟨b,0,none⟩) (ops.length + 1) (ops.length + 1),g2) ∧ isText v1 = false ∧ (∀ y ∈ new,oneCell y = true) ∧ Kept g g2 [] ∧
   Bld (fun c => g.size ≤ c) 5 OpR g2 (.slice (some ⟨b,0,none⟩) (ops.length + 1) (ops.length + 1)) (ops ++ [mkOp]) := by
 have k0 := rowKept g [] 5 []
 have s0 := slr_kept s k0 fun _ _ _ q => q
 obtain ⟨new,e1,e2,e3⟩ := s0.src (by decide) fun cs x _ q => by rw [show cs = opC x from q];rfl
 have B0 : Bld (fun b => g.size ≤ b) 5 OpR (Ev.newRow g [] 5 []) (.slice (some ⟨g.size,0,none⟩) 0 0) [] := .inr ⟨g.size,[],[],rfl,⟨Nat.le_refl _,by simp⟩,by simp,rfl,fun i x hx => by simp at hx⟩
 unfold reachBytes at hl
 obtain ⟨v1,g1,a1,a2,a3,_,a4,_⟩ := B0.appN (ys := ops) (bytes := 56) (new := new) e2 (by simp;omega) (by simp) (fun _ _ _ _ _ q => q) fun _ _ i y hy => e3 i y hy
 have z0 : (Ev.newRow g [] 5 []).size = g.size + 1 := by simp
 rw [List.nil_append] at a2
 obtain ⟨v2,g2,c1,c2,c3,c4⟩ := bld_put1 a2 (bytes := 56) (opC mkOp) (x := mkOp) rfl (by omega) (by have := a3.1;omega) (fun _ _ _ _ _ _ q => q) fun _ _ => rfl
 have k1 : Kept g g1 [] := ⟨by have := a3.1;omega,fun b hb _ => (a4 b (by omega) (fun o n c e => by injection e with e;injection e with e;injection e with e;omega)).trans (k0.get hb (by simp))⟩
 have k2 : Kept g g2 [] := ⟨Nat.le_trans k1.1 c3.1,fun b hb _ => (c4 b (Nat.lt_of_lt_of_le hb k1.1) (by omega)).trans (k1.get hb (by simp))⟩
 have ht : isText v1 = false := a2.sl.ne_text
 have c2' := c2
 rcases c2 with ⟨_,e⟩ | ⟨b,cs,an,e,hk,hg,hcl,hi⟩
 ·simp at e
 ·rw [List.length_append,List.length_singleton] at e
  subst e
  exact ⟨new,v1,g1,g2,b,e1,a1,c1,ht,new_one e2 e3,k2,c2'⟩
theorem Bld.ofNew {α : Type} {κ κ' : Kp} {col : Col} {n w : Nat} {R : H → List Value → α → Prop} {g : H} {v : Value} {xs : List α} (s : Bld (fun c => n ≤ c) w R g v xs) (hκ : ∀ c,n ≤ c → c < g.size → κ c = col) : Bld (fun c => κ c = col) w R g v xs :=
 s.imp fun c hc q => hκ c q hc
set_option maxHeartbeats 1000000 in
theorem copiedW {ok : Nat → Prop} {v : Value} {l : List St} {κ : Kp} (hκ : ∀ c,c < h.size → κ c = 0) (hS : SlR ok 6 StE h v l) (ho : ∀ s ∈ l,s.ops.length * 56 ≤ reachBytes) (hl : l.length * 72 ≤ reachBytes) (hF : l.length < F) :
  Ans (cf p (F + 1) 13 [v] h) fun w h' => Kept h h' [] ∧ ∃ κ',Agr h.size κ κ' ∧ XW κ' h' w l := by
 rw [cf_step (a := a13) rfl rfl (by simp [a13])]
 have lx := hS.len
 unfold reachBytes at hl
 simp (disch := first|omega|(simp only [zS];first|done|omega)) [bB,a13,r13_0,r13_1,r13_2]
 refine loop_rule (fun m e g => ∃ (i : Nat) (lv : Value) (κ1 : Kp),i ≤ l.length ∧ m = l.length - i ∧ Kept h g [] ∧ Agr h.size κ κ1 ∧ e = [(0,v),(3,lv),(4,vi i)] ∧ Bld (fun b => κ1 b = 1) 6 (ElW κ1) g lv (elw (l.take i)))
  ?_ F (l.length - 0) _ h (by omega) ⟨0,_,κ,by omega,rfl,Kept.refl _ _,Agr.refl _ _,rfl,Bld.nil _ _ _ _⟩
 rintro m e g again ⟨i,lv,κ1,hi,rfl,hk,ha,rfl,hB⟩ hag
 by_cases hlt : i < l.length
 ·obtain ⟨x,hxi⟩ : ∃ x,l[i]? = some x := ⟨_,List.getElem?_eq_getElem hlt⟩
  obtain ⟨b,o,c,cs,es,lv1,an,rfl,_,hg0,hl1,ov,okx,hr,hox⟩ := hS.at' hxi
  have hg := (hk.get (lt_of_get hg0) (by simp)).trans hg0
  have hlt' : (i : Int) < l.length := by omega
  have wi : IntKind.i64.wrap ((i : Int) + 1) = (i : Int) + 1 := wrap_in (by omega) (by omega)
  have one := hox.one
  have ol := hox.len
  have hx56 := ho x (List.mem_of_getElem? hxi)
  have kb := rowKept g (stC x ov) 0 []
  have hb : hget (Ev.newRow g (stC x ov) 0 []) g.size = some (.cells (stC x ov) 0 true []) := by simp
  have z1 : (Ev.newRow g (stC x ov) 0 []).size = g.size + 1 := by simp
  have kk := hk.trans kb
  have hox1 := slr_kept hox kk fun _ _ _ q => q
  obtain ⟨new,v1,g1,g2,bo,a1,a2,a3,a4,a45,a5,a6⟩ := markedC hox1 hx56
  have hb2 := (a5.get (b := g.size) (by omega) (by simp)).trans hb
  have one2 := one
  unfold oneCell at one2 a45
  have a46 := eq_true a45
  have ntx := hox.ne_text
  unfold isText at ntx a4
  have eqz : Ev.newRow g [vi x.kind,vi x.a,vi x.b,vi x.c,vs x.place,ov] 0 [] = Ev.newRow g (stC x ov) 0 [] := rfl
  have hbs := lt_of_get hb2
  simp (disch := first|omega|(simp only [zS];first|done|omega)) [bB,l13_9,r13_3,lx,hlt',r13_4,hg,hl1,hr,stC,one2,r13_5,ol]
  rw [eqz]
  generalize Ev.newRow g (stC x ov) 0 [] = g0 at *
  have hb' := hb
  simp only [stC] at hb' hb2
  have eqm : ∀ g,Ev.newRow g [vi (-7),.string { data := #[] },.string { data := #[] },vi 0,vi 0] 5 [] = Ev.newRow g (opC mkOp) 5 [] := fun g => rfl
  have eqo : opC mkOp = [vi (-7),.string { data := #[] },.string { data := #[] },vi 0,vi 0] := rfl
  rw [eqo] at a3
  simp (disch := first|omega|(simp only [zS];first|done|omega)) [bB,r13_6,hb',a1,a2,a3,a4,a46,ntx]
  have hlt5 : x.ops.length ≤ x.ops.length + 1 := by omega
  simp (disch := first|omega|(simp only [zS];first|done|omega)) [bB,srcOf,isText,a3,a4,hb2]
  have k3 : Kept g (g2.setIfInBounds g.size (.cells (stC x (.slice (some ⟨bo,0,none⟩) x.ops.length (x.ops.length + 1))) 0 true [])) [] := kept_set (kb.trans a5) (Nat.le_refl _)
  have b3 : hget (g2.setIfInBounds g.size (.cells (stC x (.slice (some ⟨bo,0,none⟩) x.ops.length (x.ops.length + 1))) 0 true [])) g.size = some (.cells (stC x (.slice (some ⟨bo,0,none⟩) x.ops.length (x.ops.length + 1))) 0 true []) := by simp [hbs]
  have kset : Kept g2 (g2.setIfInBounds g.size (.cells (stC x (.slice (some ⟨bo,0,none⟩) x.ops.length (x.ops.length + 1))) 0 true [])) [g.size] := ⟨by simp,fun c hc hn => set_other (fun e => hn (by simp [e]))⟩
  have a7 := a6.kept kset (by simp;omega) fun _ _ _ q => q
  have eqs : ∀ g4 : H,g4.setIfInBounds g.size (.cells [vi x.kind,vi x.a,vi x.b,vi x.c,vs x.place,.slice (some ⟨bo,0,none⟩) x.ops.length (x.ops.length + 1)] 0 true []) = g4.setIfInBounds g.size (.cells (stC x (.slice (some ⟨bo,0,none⟩) x.ops.length (x.ops.length + 1))) 0 true []) := fun _ => rfl
  rw [eqs]
  generalize g2.setIfInBounds g.size (.cells (stC x (.slice (some ⟨bo,0,none⟩) x.ops.length (x.ops.length + 1))) 0 true []) = g3 at *
  have kk3 := hk.trans k3
  have hs3 := kk3.1
  have ag1 : Agr g.size κ1 (ext κ1 g.size (2 + i)) := Agr.ext (Nat.le_refl _)
  have a8 : Bld (fun c => ext κ1 g.size (2 + i) c = 2 + i) 5 OpR g3 (.slice (some ⟨bo,0,none⟩) (x.ops.length + 1) (x.ops.length + 1)) (x.ops ++ [mkOp]) := a7.imp fun c _ q => ext_ge (by omega)
  have hB3 : Bld (fun b => ext κ1 g.size (2 + i) b = 1) 6 (ElW (ext κ1 g.size (2 + i))) g3 lv (elw (l.take i)) := hB.tr (Ch.of k3 (S := no)) (fun q => q) ag1 fun cs j y hy q => q.tr (Ch.of k3 (S := no)) (fun _ q => q) ag1
  have ag2 : Agr h.size κ (ext κ1 g.size (2 + i)) := ha.trans ag1 hk.1
  generalize ext κ1 g.size (2 + i) = κ2 at *
  have ag3 : Agr g3.size κ2 (ext κ2 g3.size 1) := Agr.ext (Nat.le_refl _)
  have ht : (elw (l.take i)).length = i := by rw [elw_len,List.length_take];omega
  obtain ⟨v5,g5,c1,c2,c3,c4⟩ := hB3.appC (R2 := ElW (ext κ2 g3.size 1)) (bytes := 72) (new := stC x (.slice (some ⟨bo,0,none⟩) x.ops.length (x.ops.length + 1))) (some x,2 + i) rfl (by omega)
   (fun h' k cs j y hy q => q.tr k (fun _ => by
     rw [elw_get] at hy
     obtain ⟨z,_,rfl⟩ := Option.map_eq_some_iff.1 hy
     show ¬ (2 + j = 1)
     omega) ag3)
   fun h' k => ⟨_,rfl,.inr ⟨bo,rfl,a8.tr k (show ¬ (2 + i = 1) by omega) ag3 fun _ _ _ _ q => q⟩⟩
  have k5 : Kept h g5 [] := ⟨Nat.le_trans hs3 c3.1,fun b hb _ => (c3.2 b (Nat.lt_of_lt_of_le hb hs3) (by rw [ag2 b hb,hκ b hb];simp)).trans (kk3.2 b hb (by simp))⟩
  simp only [stC] at b3 c1
  simp (disch := first|omega|(simp only [zS];first|done|omega)) [bB,r13_7,b3,srcOf,isText,c1,r13_8,wi]
  refine hag (l.length - (i + 1)) [(0,_),(3,v5),(4,vi ((i : Int) + 1))] _ (by omega) ⟨i + 1,v5,ext κ2 g3.size 1,by omega,rfl,k5,ag2.trans ag3 hs3,rfl,?_⟩
  have hti : l.take (i + 1) = l.take i ++ [x] := by rw [List.take_add_one,hxi];rfl
  rw [hti,elw_snoc,List.length_take,Nat.min_eq_left hi]
  exact c2
 ·have : i = l.length := by omega
  subst this
  rw [List.take_length] at hB
  have ln := hB.sl.len
  have ag3 : Agr g.size κ1 (ext κ1 g.size 1) := Agr.ext (Nat.le_refl _)
  obtain ⟨v5,g5,c1,c2,c3,c4⟩ := hB.appC (R2 := ElW (ext κ1 g.size 1)) (bytes := 72) (new := mkSt) (none,0) rfl (by rw [elw_len];omega)
   (fun h' k cs j y hy q => q.tr k (fun _ => by
     rw [elw_get] at hy
     obtain ⟨z,_,rfl⟩ := Option.map_eq_some_iff.1 hy
     show ¬ (2 + j = 1)
     omega) ag3)
   fun h' k => rfl
  have k5 : Kept h g5 [] := ⟨Nat.le_trans hk.1 c3.1,fun b hb _ => (c3.2 b (Nat.lt_of_lt_of_le hb hk.1) (by rw [ha b hb,hκ b hb];simp)).trans (hk.2 b hb (by simp))⟩
  have ntx := hB.sl.ne_text
  unfold isText at ntx
  have c2' := c2
  rcases c2 with ⟨_,e⟩ | ⟨b,cs,an,e,hk',hg,hcl,hi'⟩
  ·simp at e
  ·rw [List.length_append,elw_len,List.length_singleton] at e
   subst e
   rw [elw_len] at ln
   have eqk : mkSt = [vi (-7),vi 0,vi 0,vi 0,.string { data := #[] },.slice none 0 0] := rfl
   rw [eqk] at c1
   simp (disch := first|omega|(simp only [zS];first|done|omega)) [bB,l13_9,r13_3,lx,r13_10,ln,r13_11,srcOf,isText,c1,ntx,r13_12]
   exact Ans.of ⟨k5,_,ha.trans ag3 hk.1,b,rfl,c2'⟩
end Go.Proofs.YtnoghchcboiojaaGreatDoor
end
section
set_option maxRecDepth 100000
namespace Go.Proofs.YtnoghchcboiojaaGreatDoor
open Go.Ev
open Go.Rn (Bs Ru St)
variable {p : Bool} {F : Nat} {h : H}
theorem set_snoc {α : Type} (l : List α) (a b : α) {i : Nat} (hi : i < l.length) : (l ++ [a]).set i b = l.set i b ++ [a] := by
 rw [List.set_append,if_pos hi]
theorem OvO.put {κ : Kp} {col : Col} {g : H} {ov : Value} {ops : List Rn.Op} (s : OvO κ col g ov ops) {j q : Nat} {o o' : Rn.Op} {x : Value} (hj : ops[j]? = some o) (hq : q < 5) (hone : oneCell x = true) (ho' : (opC o).take q ++ [x] ++ (opC o).drop (q + 1) = opC o') :
  ∃ b cs an g',ov = .slice (some ⟨b,0,none⟩) ops.length (ops.length + 1) ∧ hget g b = some (.cells cs 5 true an) ∧ j * 5 + 5 ≤ cs.length ∧ wr g b (j * 5 + q) [x] = some g' ∧ g'.size = g.size ∧ Ch κ (· = col) g g' ∧ OvO κ col g' ov (ops.set j o') := by
 have hj' := (List.getElem?_eq_some_iff.1 hj).1
 rcases s with ⟨_,e⟩ | ⟨b,e,s⟩
 ·subst e
  simp at hj
 ·obtain ⟨b',cs,an,g',e1,e2,e3,e4,e5,e6,e7,e8,e9⟩ := s.put (i := j) (o := q) (x := o) (new := [x]) (by rw [List.getElem?_append_left hj'];exact hj) (by rw [List.length_singleton];omega) (by simpa using hone)
  injection e1 with f1
  injection f1 with f1
  injection f1 with f1
  subst f1
  refine ⟨b,cs,an,g',e,e2,e3,e6,e7,⟨by omega,e8.2⟩,.inr ⟨b,by rw [List.length_set];exact e,?_⟩⟩
  have := e9 (R2 := OpR) o' (fun _ _ _ _ _ q => q) (by
   rw [show (cs.drop (j * 5)).take 5 = opC o from e5]
   exact ho')
  rw [set_snoc _ _ _ hj'] at this
  rw [List.length_set]
  exact this
theorem XW.at' {κ : Kp} {g : H} {v : Value} {l : List St} (s : XW κ g v l) {k : Nat} {x : St} (hx : l[k]? = some x) : ∃ b cs an ov,v = .slice (some ⟨b,0,none⟩) l.length (l.length + 1) ∧ κ b = 1 ∧ hget g b = some (.cells cs 6 true an) ∧ cs.length = (l.length + 1) * 6 ∧ (cs.drop (k * 6)).take 6 = stC x ov ∧ (cs.drop (k * 6 + 5)).take 1 = [ov] ∧ OvO κ (2 + k) g ov x.ops := by
 obtain ⟨b,cs,an,e,hk,hg,hl,hi⟩ := s.row
 obtain ⟨ov,e',q⟩ := hi k x hx
 exact ⟨b,cs,an,ov,e,hk,hg,hl,e',fld_of (k := 5) e' rfl,q⟩
theorem XW.turn {κ : Kp} {g g' : H} {v : Value} {l : List St} (s : XW κ g v l) {k : Nat} {x : St} (hx : l[k]? = some x) (hc : Ch κ (· = 2 + k) g g') {b : Nat} {cs : List Value} {es : Nat} {lv : Bool} {an : List Nat} {ov : Value} {n c : Nat} (hv : v = .slice (some ⟨b,0,none⟩) n c) (hb : hget g b = some (.cells cs es lv an)) (hov : (cs.drop (k * 6)).take 6 = stC x ov) {ops : List Rn.Op} (q : OvO κ (2 + k) g' ov ops) : XW κ g' v (l.set k { x with ops := ops }) := by
 have hk' := (List.getElem?_eq_some_iff.1 hx).1
 obtain ⟨b',e,s⟩ := s
 refine ⟨b',by rw [List.length_set];exact e,?_⟩
 rw [List.length_set]
 rw [e] at hv
 injection hv with f1
 injection f1 with f1
 injection f1 with f1
 subst f1
 rcases s with ⟨e',_⟩ | ⟨b'',cs',an',e',hk1,hg,hl,hi⟩
 ·cases e'
 ·injection e' with e1
  injection e1 with e1
  injection e1 with e1
  subst e1
  rw [hg] at hb
  injection hb with hb
  injection hb with f1 f2 f3 f4
  subst f1 f2 f3 f4
  rw [List.length_append,List.length_singleton,elw_len] at hl
  have hk0 : κ b' = 1 := hk1.1
  have hlen : (elw (l.set k { x with ops := ops }) ++ [((none : Option St),(0 : Col))]).length = l.length + 1 := by rw [List.length_append,elw_len,List.length_set];rfl
  refine .inr ⟨b',cs',an',by rw [hlen],hk1,hc.get hg (show ¬ (κ b' = 2 + k) by rw [hk0];show ¬ ((1 : Nat) = 2 + k);omega),by rw [hlen];exact hl,fun i y hy => ?_⟩
  by_cases hi' : i < l.length
  ·rw [List.getElem?_append_left (by rw [elw_len,List.length_set];exact hi'),elw_get] at hy
   obtain ⟨z,hz,rfl⟩ := Option.map_eq_some_iff.1 hy
   by_cases hik : i = k
   ·subst hik
    rw [List.getElem?_set_self hk'] at hz
    cases hz
    exact ⟨ov,by rw [hov];rfl,q⟩
   ·rw [List.getElem?_set_ne (fun e => hik e.symm)] at hz
    have := hi i (some z,2 + i) (by rw [List.getElem?_append_left (by rw [elw_len];exact hi'),elw_get,hz];rfl)
    exact this.tr hc (fun _ => show ¬ (2 + i = 2 + k) by omega) (Agr.refl _ _)
  ·rw [List.getElem?_append_right (by rw [elw_len,List.length_set];omega),elw_len,List.length_set] at hy
   have := hi i y (by rw [List.getElem?_append_right (by rw [elw_len];omega),elw_len];exact hy)
   have hy' := List.mem_of_getElem? hy
   rw [List.mem_singleton] at hy'
   subst hy'
   exact this
theorem XW.put {κ : Kp} {g : H} {v : Value} {l : List St} (s : XW κ g v l) {k : Nat} {x : St} (hx : l[k]? = some x) (y : St) (hy : y.ops = []) :
  ∃ b cs an g',v = .slice (some ⟨b,0,none⟩) l.length (l.length + 1) ∧ hget g b = some (.cells cs 6 true an) ∧ k * 6 + 6 ≤ cs.length ∧ wr g b (k * 6) (stC y (.slice none 0 0)) = some g' ∧ g'.size = g.size ∧ Ch κ (· = 1) g g' ∧ XW κ g' v (l.set k y) := by
 have hk' := (List.getElem?_eq_some_iff.1 hx).1
 obtain ⟨b,e,s⟩ := s
 have hgx : (elw l ++ [((none : Option St),(0 : Col))])[k]? = some (some x,2 + k) := by rw [List.getElem?_append_left (by rw [elw_len];exact hk'),elw_get,hx];rfl
 obtain ⟨b',cs,an,g',e1,e2,e3,e4,e5,e6,e7,e8,e9⟩ := s.put (i := k) (o := 0) hgx (new := stC y (.slice none 0 0)) (by simp [stC]) rfl
 injection e1 with f1
 injection f1 with f1
 injection f1 with f1
 subst f1
 have hc : Ch κ (· = 1) g g' := ⟨by omega,e8.2⟩
 refine ⟨b,cs,an,g',e,e2,e3,e6,e7,hc,b,by rw [List.length_set];exact e,?_⟩
 have := e9 (R2 := ElW κ) (some y,2 + k) (fun cs j z hz hjk q => q.tr hc (fun hs => by
   by_cases hj : j < l.length
   ·rw [List.getElem?_append_left (by rw [elw_len];exact hj),elw_get] at hz
    obtain ⟨w,_,rfl⟩ := Option.map_eq_some_iff.1 hz
    show ¬ (2 + j = 1)
    omega
   ·rw [List.getElem?_append_right (by rw [elw_len];omega)] at hz
    have hz' := List.mem_of_getElem? hz
    rw [List.mem_singleton] at hz'
    subst hz'
    cases hs) (Agr.refl _ _)) (by
  have h6 : ((cs.drop (k * 6)).take 6).length = 6 := by rw [List.length_take,List.length_drop];omega
  refine ⟨.slice none 0 0,?_,.inl ⟨rfl,hy⟩⟩
  rw [List.take_zero,List.nil_append,List.drop_of_length_le (by rw [h6];simp [stC]),List.append_nil])
 rw [List.length_set]
 rw [set_snoc _ _ _ (by rw [elw_len];exact hk')] at this
 have hs : (elw l).set k (some y,2 + k) = elw (l.set k y) := by
  apply List.ext_getElem?
  intro j
  rw [elw_get]
  by_cases hj : j = k
  ·subst hj
   rw [List.getElem?_set_self (by rw [elw_len];exact hk'),List.getElem?_set_self hk']
   rfl
  ·rw [List.getElem?_set_ne (fun e => hj e.symm),List.getElem?_set_ne (fun e => hj e.symm),elw_get]
 rw [hs] at this
 exact this
def w_turned : Bs := [116,117,114,110,101,100]
theorem lit_turned : str116_117_114_110_101_100 = ofB w_turned := rfl
def tn (i : Nat) (o : Rn.Op) : Rn.Op := { o with version := i,data := w_turned }
def plIn : ACode := (.seq (.region r7_16 [2,3,8,9,14,15]) (.block 2 (.loop [2,3,8,9,14,15] l7_21)))
theorem map_take {α : Type} (f : α → α) (l : List α) {j : Nat} {o : α} (hj : l[j]? = some o) : ((l.take j).map f ++ l.drop j).set j (f o) = (l.take (j + 1)).map f ++ l.drop (j + 1) := by
 have h1 := (List.getElem?_eq_some_iff.1 hj).1
 have h2 : ((l.take j).map f).length = j := by rw [List.length_map,List.length_take];omega
 have hd : l.drop j = o :: l.drop (j + 1) := by
  rw [List.drop_eq_getElem_cons h1]
  rw [List.getElem?_eq_getElem h1] at hj
  rw [Option.some.inj hj]
 rw [List.set_append,if_neg (by omega),h2,Nat.sub_self,List.take_add_one,hj,hd]
 simp
theorem map_get {α : Type} (f : α → α) (l : List α) {j : Nat} {o : α} (hj : l[j]? = some o) : ((l.take j).map f ++ l.drop j)[j]? = some o := by
 have h1 := (List.getElem?_eq_some_iff.1 hj).1
 have h2 : ((l.take j).map f).length = j := by rw [List.length_map,List.length_take];omega
 rw [List.getElem?_append_right (by omega),h2,Nat.sub_self,List.getElem?_drop]
 exact hj
theorem map_len {α : Type} (f : α → α) (l : List α) (j : Nat) : ((l.take j).map f ++ l.drop j).length = l.length := by
 rw [List.length_append,List.length_map,List.length_take,List.length_drop];omega
set_option maxHeartbeats 1000000 in
theorem plIn_spec {cx : Cx} {G : Nat} {κ : Kp} {g : H} {v v2 v3 : Value} {l : List St} (s : XW κ g v l) {k i : Nat} {x : St} (hx : l[k]? = some x) (hn : x.ops.length < 4398046511104) (hl : l.length < 4398046511104) (hG : x.ops.length < G) {re : Env}
  {kn kr : K} {ke : Nat → K} {Q : Value → H → Prop}
  (hkn : ∀ g' (e : Env),Ch κ (· = 2 + k) g g' → XW κ g' v (l.set k { x with ops := x.ops.map (tn i) }) → Ans (kn ((2,v2) :: (3,v3) :: (8,v) :: (9,vi i) :: (14,vi k) :: e) g' []) Q) :
  Ans (evC G cx plIn kn ke kr ((2,v2) :: (3,v3) :: (8,v) :: (9,vi i) :: (14,vi k) :: re) g []) Q := by
 have hk' := (List.getElem?_eq_some_iff.1 hx).1
 obtain ⟨b,cs,an,ov,rfl,hκ,hg,hcl,h6,h1,hO⟩ := s.at' hx
 have hkl : (k : Int) < l.length := by omega
 simp (disch := first|omega|(simp only [zS];first|done|omega)) [bB,plIn,r7_16]
 refine loop_rule (fun m e g' => ∃ j : Nat,j ≤ x.ops.length ∧ m = x.ops.length - j ∧ Ch κ (· = 2 + k) g g' ∧ e = [(2,v2),(3,v3),(8,.slice (some ⟨b,0,none⟩) l.length (l.length + 1)),(9,vi i),(14,vi k),(15,vi j)] ∧ OvO κ (2 + k) g' ov ((x.ops.take j).map (tn i) ++ x.ops.drop j))
  ?_ G (x.ops.length - 0) _ g (by omega) ⟨0,by omega,rfl,Ch.refl _ _ _,rfl,by simpa using hO⟩
 rintro m e g' again ⟨j,hj,rfl,hc,rfl,hO'⟩ hag
 have hg' := hc.get hg (show ¬ (κ b = 2 + k) by rw [hκ];show ¬ ((1 : Nat) = 2 + k);omega)
 have hol := hO'.sl.len
 rw [map_len] at hol
 have hc5 : k * 6 + 5 + 1 ≤ cs.length := by rw [hcl];omega
 by_cases hlt : j < x.ops.length
 ·obtain ⟨o,ho⟩ : ∃ o,x.ops[j]? = some o := ⟨_,List.getElem?_eq_getElem hlt⟩
  have hlt' : (j : Int) < x.ops.length := by omega
  have wj : IntKind.i64.wrap ((j : Int) + 1) = ((j + 1 : Nat) : Int) := by rw [wrap_in (by omega) (by omega)];omega
  obtain ⟨bo,cso,ano,g1,e1,e2,e3,e4,e5,e6,e7⟩ := hO'.put (q := 3) (o' := { o with version := i }) (x := vi i) (map_get _ _ ho) (by decide) rfl rfl
  have hg1 := e6.get hg' (show ¬ (κ b = 2 + k) by rw [hκ];show ¬ ((1 : Nat) = 2 + k);omega)
  obtain ⟨bo',cso',ano',g2,f1,f2,f3,f4,f5,f6,f7⟩ := e7.put (q := 2) (j := j) (o := { o with version := i }) (o' := tn i o) (x := vs w_turned) (List.getElem?_set_self (by rw [map_len];exact hlt)) (by decide) rfl rfl
  rw [List.length_set,map_len] at f1
  rw [map_len] at e1
  rw [e1] at f1
  injection f1 with f1
  injection f1 with f1
  injection f1 with f1
  subst f1
  subst e1
  simp (disch := first|omega|(simp only [zS];first|done|omega)) [bB,l7_21,r7_17,hkl,hg',hc5,h1,hol,hlt',r7_18,-wr,e4,hlt]
  simp (disch := first|omega|(simp only [zS];first|done|omega)) [bB,r7_19,hg1,hc5,h1,lit_turned,-wr,f4,r7_20,wj,hkl,hlt',hlt]
  refine hag (x.ops.length - (j + 1)) _ g2 (by omega) ⟨j + 1,hlt,rfl,(hc.trans e6 (Agr.refl _ _)).trans f6 (Agr.refl _ _),rfl,?_⟩
  rw [List.set_set,map_take _ _ ho] at f7
  exact f7
 ·have : j = x.ops.length := by omega
  subst this
  simp (disch := first|omega|(simp only [zS];first|done|omega)) [bB,l7_21,r7_17,hkl,hg',hc5,h1,hol]
  refine hkn g' _ hc ?_
  rw [List.take_length,List.drop_length,List.append_nil] at hO'
  exact s.turn hx hc rfl hg h6 hO'
end Go.Proofs.YtnoghchcboiojaaGreatDoor
end
section
set_option maxRecDepth 100000
namespace Go.Proofs.YtnoghchcboiojaaGreatDoor
open Go.Ev
open Go.Rn (Bs Ru St)
variable {p : Bool} {F : Nat} {h : H}
def placed (i : Nat) (x : St) : St := if x.ops.length = 0 then { kind := 5,a := i,b := 0,c := 0,place := [],ops := [] } else { x with ops := x.ops.map (tn i) }
def plTail : ACode := (.seq plIn (.seq (.region r7_22 [2,3,8,9,14,107]) (.cond (.tmp 107) (.region r7_23 [2,3,8,9]) .skip)))
theorem set_self' {α : Type} (l : List α) {k : Nat} {x : α} (hx : l[k]? = some x) : l.set k x = l := by
 apply List.ext_getElem?
 intro j
 by_cases hj : j = k
 ·subst hj
  rw [List.getElem?_set_self (List.getElem?_eq_some_iff.1 hx).1,hx]
 ·rw [List.getElem?_set_ne (fun e => hj e.symm)]
theorem Ch.one {κ : Kp} {S S' : Col → Prop} {g g1 g2 : H} (a : Ch κ S g g1) (b : Ch κ S' g1 g2) : Ch κ (fun c => S c ∨ S' c) g g2 :=
 (a.weak fun _ q => .inl q).trans (b.weak fun _ q => .inr q) (Agr.refl _ _)
set_option maxHeartbeats 1000000 in
theorem plTail_spec {cx : Cx} {G : Nat} {κ : Kp} {g : H} {v v2 v3 : Value} {l : List St} (s : XW κ g v l) {k i : Nat} {x : St} (hx : l[k]? = some x) (hn : x.ops.length < 4398046511104) (hl : l.length < 4398046511104) (hG : x.ops.length < G) {re : Env}
  {kn kr : K} {ke : Nat → K} {Q : Value → H → Prop}
  (hkn : ∀ g' (e : Env),Ch κ (fun c => 1 ≤ c) g g' → XW κ g' v (l.set k (placed i x)) → Ans (kn ((2,v2) :: (3,v3) :: (8,v) :: (9,vi i) :: e) g' []) Q) :
  Ans (evC G cx plTail kn ke kr ((2,v2) :: (3,v3) :: (8,v) :: (9,vi i) :: (14,vi k) :: re) g []) Q := by
 have hk' := (List.getElem?_eq_some_iff.1 hx).1
 have hkl : (k : Int) < l.length := by omega
 simp only [plTail,evC_seq]
 refine plIn_spec s hx hn hl hG fun g1 e1 c1 s1 => ?_
 have hx1 : (l.set k { x with ops := x.ops.map (tn i) })[k]? = some { x with ops := x.ops.map (tn i) } := List.getElem?_set_self hk'
 obtain ⟨b,cs,an,ov,ev,hκ,hg,hcl,h6,h1,hO⟩ := s1.at' hx1
 rw [List.length_set] at ev hcl
 have hol := hO.sl.len
 rw [List.length_map] at hol
 have hc5 : k * 6 + 5 + 1 ≤ cs.length := by rw [hcl];omega
 have cw : Ch κ (fun c => 1 ≤ c) g g1 := c1.weak fun c q => by rw [q];show 1 ≤ 2 + k;omega
 by_cases hz : x.ops.length = 0
 ·obtain ⟨b',cs',an',g2,f1,f2,f3,f4,f5,f6,f7⟩ := s1.put hx1 (placed i x) (by simp [placed,hz])
  rw [List.length_set] at f1
  rw [ev] at f1
  injection f1 with f1
  injection f1 with f1
  injection f1 with f1
  subst f1
  subst ev
  have hz' : (x.ops.length : Int) = 0 := by omega
  have hp : placed i x = { kind := 5,a := i,b := 0,c := 0,place := [],ops := [] } := by simp [placed,hz]
  rw [hp] at f4
  simp only [stC] at f4
  rw [List.set_set] at f7
  simp (disch := first|omega|(simp only [zS];first|done|omega)) [bB,r7_22,hkl,hg,hc5,h1,hol,hz',r7_23,-wr,lit_nil,f4]
  exact hkn g2 _ (cw.trans (f6.weak fun c q => by rw [q];exact Nat.le_refl _) (Agr.refl _ _)) f7
 ·have hz' : ¬ (x.ops.length : Int) = 0 := by omega
  have hp : placed i x = { x with ops := x.ops.map (tn i) } := by simp [placed,hz]
  rw [hp] at hkn
  subst ev
  simp (disch := first|omega|(simp only [zS];first|done|omega)) [bB,r7_22,hkl,hg,hc5,h1,hol,hz']
  exact hkn g1 _ cw s1
end Go.Proofs.YtnoghchcboiojaaGreatDoor
end
section
set_option maxRecDepth 100000
namespace Go.Proofs.YtnoghchcboiojaaGreatDoor
open Go.Ev
open Go.Rn (Bs Tok Ru St PRes)
variable {p : Bool} {F : Nat} {h : H}
def IntR (_ : H) (cs : List Value) (n : Int) : Prop := cs = [vi n]
structure InI (h : H) (v : Value) (l : List Int) : Prop where
 sl : SlR (fun b => b < h.size) 1 IntR h v l
 ok : ∀ n ∈ l,I64 n
 len : l.length * 8 ≤ reachBytes
theorem open_ints {v : Value} (q : CellsZ h (.slice (.int .i64)) [v]) : ∃ l : List Int,InI h v l := by
 obtain ⟨l,h1,h2,h3⟩ := open_slice (R := IntR) (N := I64) (by decide) (fun cs q => by
  simp only [CellsZ] at q
  obtain ⟨n,e,w⟩ := q
  exact ⟨n,e,wf_i64 w⟩) q
 exact ⟨l,h1,h2,h3⟩
theorem l7_split : l7_25 = (.seq (.seq (.region r7_6 [2,3,8,9,28]) (.cond (.tmp 28) .skip (.exit 0))) (.seq (.block 1 (.seq (.region r7_7 [2,3,8,9,10,11]) (.seq (.regionD d7_8 [(0,[3])] [2,3,8,9,10,11,12,13]) (.seq (.seq (.region r7_9 [2,3,8,9,51]) (.cond (.tmp 51) (.seq (.region r7_10 [6]) .ret) .skip)) (.seq (.seq (.region r7_11 [2,3,8,9,60]) (.cond (.tmp 60) (.exit 1) .skip)) (.seq (.region r7_12 [2,3,8,9,14]) (.seq (.seq (.region r7_13 [2,3,8,9,14,66]) (.cond (.tmp 66) (.region r7_14 [2,3,8,9,14]) .skip)) (.seq (.region r7_15 [2,3,8,9,14]) plTail)))))))) (.region r7_24 [2,3,8,9]))) := rfl
theorem placed_ok {i : Nat} (hi : i < 8) {x : St} (h : StN x ∧ x.ops.length * 56 ≤ reachBytes) : StN (placed i x) ∧ (placed i x).ops.length * 56 ≤ reachBytes := by
 obtain ⟨⟨h1,h2,h3,h4⟩,h5⟩ := h
 unfold placed
 split
 ·refine ⟨⟨by show I64 (i : Int);unfold I64;omega,by show I64 (0 : Int);unfold I64;omega,by show I64 (0 : Int);unfold I64;omega,by simp⟩,by simp⟩
 ·refine ⟨⟨h1,h2,h3,fun o ho => ?_⟩,by simpa using h5⟩
  obtain ⟨q,_,rfl⟩ := List.mem_map.1 ho
  show I64 (i : Int)
  unfold I64
  omega
theorem int_at {w : Value} {l : List Int} {ok : Nat → Prop} (s : SlR ok 1 IntR h w l) {i : Nat} {n : Int} (hn : l[i]? = some n) : ∃ b o c cs es lv an,w = .slice (some ⟨b,o,none⟩) l.length c ∧ hget h b = some (.cells cs es lv an) ∧ o + i + 1 ≤ cs.length ∧ (cs.drop (o + i)).take 1 = [vi n] := by
 obtain ⟨b,o,c,cs,es,lv,an,e,_,hg,hl,hr⟩ := s.at' hn
 rw [Nat.mul_one] at hl hr
 exact ⟨b,o,c,cs,es,lv,an,e,hg,hl,hr⟩
set_option maxHeartbeats 2000000 in
theorem law7 (hG : Glo h) (hR : GloR h) (h14 : 14 ≤ h.size) (hF : 4398046511200 < F) (r : Ru) (hr : RuN r) (v : Value) (l : List St) (hI : InS h v l) (w : Value) (ats : List Int) (hA : InI h w ats) : Ans (cf true (F + 12) 7 [.agg ⟨ruC r⟩,v,w] h) fun v _ => v = .bool true := by
 rw [cf_step (a := a7) rfl rfl (by simp [a7])]
 have q4 : F + 10 + 1 = F + 11 := by omega
 have q6 : F - 1 + 12 = F + 11 := by omega
 have hl := hI.len
 have hal := hA.len
 unfold reachBytes at hl hal
 have e3 := fun (h1 : H) (k : Kept h h1 []) => fixed_spec (h := h1) (F := F) (hG.kept0 k) (Nat.le_trans h14 k.1) hF
 have e5 := fun (h1 : H) (k : Kept h h1 []) (ok : Nat → Prop) (v : Value) (l : List St) => print_call (F := F + 10) (ok := ok) (v := v) (l := l) (r := r) (hG.kept0 k)
 have e6 := fun (h1 : H) (k : Kept h h1 []) (ok : Nat → Prop) (v : Value) (l : List St) (hl : l.length < 4398046511104) (ho : ∀ s ∈ l,StN s ∧ s.ops.length < 4398046511104) (hS : SlR ok 6 StE h1 v l) => rprint_w (p := true) (F := F - 1) (h := h1) (v := v) r hr l hS hl ho (hR.kept k) (by omega)
 have e7 := fun (h1 : H) (k : Kept h h1 []) => copiedW (p := true) (F := F + 10) (h := h1) (v := v) (l := l) (κ := fun _ => 0) (fun _ _ => rfl) (slr_kept hI.sl k fun _ _ _ q => q.kept k) (fun s hs => (hI.ok s hs).2) hI.len (by omega)
 have e8 := fun (h1 : H) (ok : Nat → Prop) (v : Value) (l : List St) (hS : SlR ok 6 StE h1 v l) (ho : ∀ s ∈ l,s.ops.length * 56 ≤ reachBytes) (hl : l.length * 72 ≤ reachBytes) (hl' : l.length < F + 10) => copied_spec (p := true) (F := F + 10) (h := h1) (v := v) (l := l) hS ho hl hl'
 rw [q4] at e5 e7 e8
 rw [q6] at e6
 generalize cf true (F + 11) = c at *
 have hex : ∃ a b c d e f : Int,ruC r = [vi a,vi b,vi c,vi d,vi e,vi f] := ⟨_,_,_,_,_,_,rfl⟩
 generalize ruC r = R at *
 obtain ⟨na,nb,nc,nd,ne,nf,rfl⟩ := hex
 have k1 := rowKept h [vi na,vi nb,vi nc,vi nd,vi ne,vi nf] 0 []
 have hB : hget (Ev.newRow h [vi na,vi nb,vi nc,vi nd,vi ne,vi nf] 0 []) h.size = some (.cells [vi na,vi nb,vi nc,vi nd,vi ne,vi nf] 0 true []) := by simp
 have z1 : (Ev.newRow h [vi na,vi nb,vi nc,vi nd,vi ne,vi nf] 0 []).size = h.size + 1 := by simp
 simp (disch := first|omega|(simp only [zS];first|done|omega)) [bB,a7,r7_0,r7_1]
 generalize Ev.newRow h [vi na,vi nb,vi nc,vi nd,vi ne,vi nf] 0 [] = g1 at *
 refine Ans.next (e3 _ k1) ?_
 rintro u g2 ⟨k2,rfl⟩
 have k02 := k1.trans k2
 have hB2 := (k2.get (b := h.size) (by omega) (by simp)).trans hB
 simp (disch := first|omega|(simp only [zS];first|done|omega)) [bB,r7_2,aUn,r7_4]
 refine Ans.next (e7 _ k02) ?_
 rintro x g3 ⟨k3,κ,hκ,hX⟩
 have nx := one_np hX.sl.one
 simp (disch := first|omega|(simp only [zS];first|done|omega)) [bB,nx,r7_5]
 have hB2s := lt_of_get hB2
 have hB3 := (k3.get (b := h.size) hB2s (by simp)).trans hB2
 refine loop_rule (fun m e g => ∃ (i : Nat) (l' : List St),i ≤ 8 ∧ m = 8 - i ∧ g2.size ≤ g.size ∧ (∀ b,b < g2.size → hget g b = hget g2 b) ∧ e = [(2,w),(3,.pointer (some ⟨h.size,0,none⟩)),(8,x),(9,vi i)] ∧ XW κ g x l' ∧ l'.length = l.length ∧ (∀ s ∈ l',StN s ∧ s.ops.length * 56 ≤ reachBytes))
  ?_ (F + 11) 8 _ g3 (by omega) ⟨0,l,by omega,rfl,k3.1,fun b hb => k3.2 b hb (by simp),rfl,hX,rfl,hI.ok⟩
 rintro m e g again ⟨i,l',hi,rfl,hz,hgb,rfl,hX',hll,hok⟩ hag
 have k0g : Kept h g [] := ⟨Nat.le_trans k02.1 hz,fun b hb _ => (hgb b (Nat.lt_of_lt_of_le hb k02.1)).trans (k02.2 b hb (by simp))⟩
 have hBg := (hgb h.size hB2s).trans hB2
 have alen := hA.sl.len
 rw [l7_split]
 by_cases hle : i ≤ ats.length ∧ i < 8
 ·obtain ⟨ha1,ha2⟩ := hle
  have hle1 : (i : Int) ≤ ats.length := by omega
  have hle2 : (i : Int) < 8 := by omega
  have wi : IntKind.i64.wrap ((i : Int) + 1) = ((i + 1 : Nat) : Int) := by rw [wrap_in (by omega) (by omega)];omega
  have e5a := e5 _ k0g _ _ _ hX'.sl
  obtain ⟨tt,cc,hz1,hz2⟩ := printV_code (Rn.print r l')
  rw [hz1] at e5a
  have xlen := hX'.sl.len
  rw [hll] at xlen
  simp (disch := first|omega|(simp only [zS];first|done|omega)) [bB,r7_6,alen,hle1,hle2,r7_7,hBg,e5a,d7_8]
  refine Ans.nextCD (e8 _ _ _ _ hX'.sl (fun s hs => (hok s hs).2) (by rw [hll];exact hI.len) (by omega)) ?_
  rintro y g4 ⟨k4,hC⟩
  have k04 := k0g.trans k4
  have hB4 := (k4.get (b := h.size) (by omega) (by simp)).trans hBg
  have ny := one_np hC.sl.one
  simp (disch := first|omega|(simp only [zS];first|done|omega)) [bB,ny,hB4,hBg,dk_go,chks_nil,chks_cons,chkA_nil,chkA_cons,chk1_no,chk1_yes,chkV_some,hAt_eq,hOf_some,hOf_none,sameV,sameL,sameCell,blanks]
  have ho' : ∀ s ∈ l',StN s ∧ s.ops.length < 4398046511104 := fun s hs => ⟨(hok s hs).1,by have := (hok s hs).2;unfold reachBytes at this;omega⟩
  refine Ans.nextCD (e6 _ k04 _ _ _ (by omega) ho' hC.sl) ?_
  rintro u g5 ⟨k5,rfl⟩
  have k05 := k04.trans k5
  have hB5 := (k5.get (b := h.size) (by have := k4.1;omega) (by simp)).trans hB4
  have kg5 := k4.trans k5
  have hX5 := hX'.kept kg5
  rw [hz1]
  simp (disch := first|omega|(simp only [zS];first|done|omega)) [bB,hB5,hB4,hBg,dk_go,chks_nil,chks_cons,chkA_nil,chkA_cons,chk1_no,chk1_yes,chkV_some,hAt_eq,hOf_some,hOf_none,sameV,sameL,sameCell,blanks,r7_9,ba_nself,r7_11,alen,xlen]
  have hg5 : ∀ b,b < g2.size → hget g5 b = hget g2 b := fun b hb => (kg5.2 b (Nat.lt_of_lt_of_le hb hz) (by simp)).trans (hgb b hb)
  have hz5 : g2.size ≤ g5.size := Nat.le_trans hz kg5.1
  have fin : ∀ (g' : H) (l2 : List St),Ch κ (fun c => 1 ≤ c) g5 g' → XW κ g' x l2 → l2.length = l.length → (∀ s ∈ l2,StN s ∧ s.ops.length * 56 ≤ reachBytes) →
    Ans (again [(2,w),(3,.pointer (some ⟨h.size,0,none⟩)),(8,x),(9,vi ((i + 1 : Nat) : Int))] g' []) fun v _ => v = .bool true := fun g' l2 hc hX2 h2 h3 =>
   hag (8 - (i + 1)) _ g' (by omega) ⟨i + 1,l2,by omega,rfl,Nat.le_trans hz5 hc.1,fun b hb => (hc.2 b (Nat.lt_of_lt_of_le hb hz5) (by rw [hκ b hb];exact Nat.not_succ_le_zero 0)).trans (hg5 b hb),rfl,hX2,h2,h3⟩
  have fin0 := fin g5 l' (Ch.refl _ _ _) hX5 hll hok
  by_cases hend : i = ats.length
  ·have hend' : (i : Int) = ats.length := by omega
   simp (disch := first|omega|(simp only [zS];first|done|omega)) [bB,hend',r7_24]
   rw [← hend',wi]
   exact fin0
  have hend' : ¬ (i : Int) = ats.length := by omega
  by_cases hl0 : l.length = 0
  ·have hl0' : (l.length : Int) = 0 := by omega
   simp (disch := first|omega|(simp only [zS];first|done|omega)) [bB,hend',xlen,hl0',r7_24,wi]
   exact fin0
  have hl0' : ¬ (l.length : Int) = 0 := by omega
  obtain ⟨n,hn⟩ : ∃ n,ats[i]? = some n := ⟨_,List.getElem?_eq_getElem (by omega)⟩
  have hnI := hA.ok n (List.mem_of_getElem? hn)
  unfold I64 at hnI
  obtain ⟨ba,oa,ca,csa,esa,lva,ana,rfl,hga,hla,hra⟩ := int_at (slr_kept hA.sl k05 fun _ _ _ q => q) hn
  have hlt : (i : Int) < ats.length := by omega
  have fin1 : ∀ (k : Nat) (y : St),l'[k]? = some y → ∀ (g' : H) (e : Env),Ch κ (fun c => 1 ≤ c) g5 g' → XW κ g' x (l'.set k (placed i y)) → Ans (again [(2,.slice (some ⟨ba,oa,none⟩) ats.length ca),(3,.pointer (some ⟨h.size,0,none⟩)),(8,x),(9,vi ((i + 1 : Nat) : Int))] g' []) fun v _ => v = .bool true := fun k y hy g' e hc hX2 =>
   fin g' _ hc hX2 (by rw [List.length_set];exact hll) fun s hs => by
    rcases List.mem_or_eq_of_mem_set hs with hs | rfl
    ·exact hok s hs
    ·exact placed_ok ha2 (hok y (List.mem_of_getElem? hy))
  by_cases hneg : n < 0
  ·have w1 : IntKind.i64.wrap (n + 1) = n + 1 := wrap_in (by omega) (by omega)
   have w2 : IntKind.i64.wrap (-(n + 1)) = -(n + 1) := wrap_in (by omega) (by omega)
   have hk0 : 0 ≤ (-(n + 1)).tmod l.length := Int.tmod_nonneg _ (by omega)
   have hk1 : (-(n + 1)).tmod l.length < l.length := Int.tmod_lt_of_pos _ (by omega)
   obtain ⟨k,hk⟩ := Int.eq_ofNat_of_zero_le hk0
   rw [hk] at hk1
   have hkl : k < l'.length := by rw [hll];exact Int.ofNat_lt.1 hk1
   obtain ⟨y,hy⟩ : ∃ y,l'[k]? = some y := ⟨_,List.getElem?_eq_getElem hkl⟩
   simp (disch := first|omega|(simp only [zS];first|done|omega)) [bB,hend',xlen,hl0',r7_12,hlt,hga,hla,hra,r7_13,hneg,r7_14,w1,w2,r7_15,hk]
   refine plTail_spec hX5 hy (ho' y (List.mem_of_getElem? hy)).2 (by omega) (by have := (ho' y (List.mem_of_getElem? hy)).2;omega) fun g' e hc hX2 => ?_
   simp (disch := first|omega|(simp only [zS];first|done|omega)) [bB,r7_24,wi]
   exact fin1 k y hy g' e hc hX2
  ·have hk0 : 0 ≤ n.tmod l.length := Int.tmod_nonneg _ (by omega)
   have hk1 : n.tmod l.length < l.length := Int.tmod_lt_of_pos _ (by omega)
   obtain ⟨k,hk⟩ := Int.eq_ofNat_of_zero_le hk0
   rw [hk] at hk1
   have hkl : k < l'.length := by rw [hll];exact Int.ofNat_lt.1 hk1
   obtain ⟨y,hy⟩ : ∃ y,l'[k]? = some y := ⟨_,List.getElem?_eq_getElem hkl⟩
   simp (disch := first|omega|(simp only [zS];first|done|omega)) [bB,hend',xlen,hl0',r7_12,hlt,hga,hla,hra,r7_13,hneg,r7_15,hk]
   refine plTail_spec hX5 hy (ho' y (List.mem_of_getElem? hy)).2 (by omega) (by have := (ho' y (List.mem_of_getElem? hy)).2;omega) fun g' e hc hX2 => ?_
   simp (disch := first|omega|(simp only [zS];first|done|omega)) [bB,r7_24,wi]
   exact fin1 k y hy g' e hc hX2
 ·by_cases ha1 : i ≤ ats.length
  ·have hle1 : (i : Int) ≤ ats.length := by omega
   have hle2 : ¬ (i : Int) < 8 := by omega
   simp (disch := first|omega|(simp only [zS];first|done|omega)) [bB,r7_6,alen,hle1,hle2,r7_26]
   exact Ans.of rfl
  ·have hle1 : ¬ (i : Int) ≤ ats.length := by omega
   simp (disch := first|omega|(simp only [zS];first|done|omega)) [bB,r7_6,alen,hle1,r7_26]
   exact Ans.of rfl
end Go.Proofs.YtnoghchcboiojaaGreatDoor
end
