/- Texts of the proofs over heraldlaw18, put together by a program (merge18c.py): Sy2 Sy4. -/
import Derived.Test.YtnoghchcboiojaaGreatDoorD12
import Derived.Test.YtnoghchcboiojaaGreatDoorD11
set_option linter.unusedVariables false
set_option linter.unusedSimpArgs false
section
set_option maxRecDepth 100000
namespace Go.Proofs.YtnoghchcboiojaaGreatDoor
open Go.Ev
open Go.Rn (Bs Ru St)
variable {p : Bool} {F : Nat} {h : H}
def mkOp : Rn.Op := { kind := -7 }
def OvM (h : H) (ov : Value) (ops : List Rn.Op) : Prop := ∃ b c cs,ov = .slice (some ⟨b,0,none⟩) ops.length c ∧ ops.length + 1 ≤ c ∧ cel h b = some cs ∧ (∀ (i : Nat) (o : Rn.Op),(ops ++ [mkOp])[i]? = some o → i * 5 + 5 ≤ cs.length ∧ (cs.drop (i * 5)).take 5 = opC o)
def StM (h : H) (cs : List Value) (s : St) : Prop := ∃ ov,cs = stC s ov ∧ OvM h ov s.ops
def mkSt : List Value := [vi (-7),vi 0,vi 0,vi 0,vs [],.slice none 0 0]
def RM (h : H) (cs : List Value) : Option St → Prop
 | some s => StM h cs s
 | none => cs = mkSt
def CopM (h : H) (v : Value) (l : List St) : Prop := ∃ b c cs,v = .slice (some ⟨b,0,none⟩) l.length c ∧ l.length + 1 ≤ c ∧ cel h b = some cs ∧ (∀ (i : Nat) (x : Option St),(l.map some ++ [none])[i]? = some x → i * 6 + 6 ≤ cs.length ∧ RM h ((cs.drop (i * 6)).take 6) x)
theorem OvM.kept {h g : H} {ov : Value} {ops : List Rn.Op} (q : OvM h ov ops) (k : KeptC h g []) : OvM g ov ops := by
 obtain ⟨b,c,cs,e1,e2,e3,e4⟩ := q
 exact ⟨b,c,cs,e1,e2,(k.2 b (cel_lt e3) (by simp)).trans e3,e4⟩
theorem RM.kept {h g : H} {cs : List Value} {x : Option St} (q : RM h cs x) (k : KeptC h g []) : RM g cs x := by
 cases x with
 | none => exact q
 | some s =>
  obtain ⟨ov,e,q⟩ := q
  exact ⟨ov,e,q.kept k⟩
theorem CopM.kept {h g : H} {v : Value} {l : List St} (q : CopM h v l) (k : KeptC h g []) : CopM g v l := by
 obtain ⟨b,c,cs,e1,e2,e3,e4⟩ := q
 exact ⟨b,c,cs,e1,e2,(k.2 b (cel_lt e3) (by simp)).trans e3,fun i x hx => ⟨(e4 i x hx).1,(e4 i x hx).2.kept k⟩⟩
theorem OvM.sl {h : H} {ov : Value} {ops : List Rn.Op} (q : OvM h ov ops) : SlR (fun _ => True) 5 OpR h ov ops := by
 obtain ⟨b,c,cs,e1,e2,e3,e4⟩ := q
 refine .inr ⟨b,0,c,cs,e1,by omega,trivial,e3,fun i o ho => ?_⟩
 have := e4 i o (by rw [List.getElem?_append_left (List.getElem?_eq_some_iff.1 ho).1];exact ho)
 rw [Nat.zero_add]
 exact this
theorem CopM.sl {h : H} {v : Value} {l : List St} (q : CopM h v l) : SlR (fun _ => True) 6 StE h v l := by
 obtain ⟨b,c,cs,e1,e2,e3,e4⟩ := q
 refine .inr ⟨b,0,c,cs,e1,by omega,trivial,e3,fun i s hs => ?_⟩
 obtain ⟨q1,ov,q2,q3⟩ := e4 i (some s) (by rw [List.getElem?_append_left (by simp;exact (List.getElem?_eq_some_iff.1 hs).1)];simp [hs])
 rw [Nat.zero_add]
 exact ⟨q1,ov,_,q2,q3.sl⟩
theorem opC_one (o : Rn.Op) : ∀ y ∈ opC o,oneCell y = true := by
 intro y hy
 simp only [opC,List.mem_cons,List.not_mem_nil,or_false] at hy
 rcases hy with rfl | rfl | rfl | rfl | rfl <;> rfl
theorem new_one {new : List Value} {ops : List Rn.Op} (e2 : new.length = ops.length * 5) (e3 : ∀ (i : Nat) (x : Rn.Op),ops[i]? = some x → (new.drop (i * 5)).take 5 = opC x) : ∀ y ∈ new,oneCell y = true := by
 intro y hy
 obtain ⟨j,hj⟩ := List.mem_iff_getElem?.1 hy
 have hjl := (List.getElem?_eq_some_iff.1 hj).1
 obtain ⟨x,hx⟩ : ∃ x,ops[j / 5]? = some x := ⟨_,List.getElem?_eq_getElem (by omega)⟩
 have e := e3 _ _ hx
 refine opC_one x y ?_
 rw [← e]
 refine List.mem_iff_getElem?.2 ⟨j % 5,?_⟩
 rw [List.getElem?_take,if_pos (Nat.mod_lt _ (by decide)),List.getElem?_drop,show j / 5 * 5 + j % 5 = j by omega]
 exact hj
theorem marked {g : H} {ok : Nat → Prop} {ov : Value} {ops : List Rn.Op} (s : SlR ok 5 OpR g ov ops) (hl : ops.length * 56 ≤ reachBytes) :
  ∃ new v1 g1 g2 b,srcOf (Ev.newRow g [] 5 []) 5 ov = some (ops.length,new) ∧ appendTo (Ev.newRow g [] 5 []) 5 56 (.slice (some ⟨g.size,0,none⟩) 0 0) ops.length new = some (v1,g1) ∧
   appendTo (Ev.newRow g1 (opC mkOp) 5 []) 5 56 v1 1 (opC mkOp) = some (.slice (some ⟨b,0,none⟩) (ops.length + 1) (ops.length + 1),g2) ∧ isText v1 = false ∧ (∀ y ∈ new,oneCell y = true) ∧ Kept g g2 [] ∧ g.size ≤ b ∧ OvM g2 (.slice (some ⟨b,0,none⟩) ops.length (ops.length + 1)) ops := by
 have k0 := rowKept g [] 5 []
 have s0 := slr_kept s k0 fun _ _ _ q => q
 obtain ⟨new,e1,e2,e3⟩ := s0.src (by decide) fun cs x _ q => by rw [show cs = opC x from q];rfl
 have B0 : Bld (fun b => g.size ≤ b) 5 OpR (Ev.newRow g [] 5 []) (.slice (some ⟨g.size,0,none⟩) 0 0) [] := .inr ⟨g.size,[],[],rfl,⟨Nat.le_refl _,by simp⟩,by simp,rfl,fun i x hx => by simp at hx⟩
 unfold reachBytes at hl
 obtain ⟨v1,g1,a1,a2,a3,_,a4,_⟩ := B0.appN (ys := ops) (bytes := 56) (new := new) e2 (by simp;omega) (by simp) (fun _ _ _ _ _ q => q) fun _ _ i y hy => e3 i y hy
 have z0 : (Ev.newRow g [] 5 []).size = g.size + 1 := by simp
 rw [List.nil_append] at a2
 obtain ⟨v2,g2,c1,c2,c3,c4⟩ := bld_put1 a2 (bytes := 56) (opC mkOp) (x := mkOp) rfl (by omega) (by have := a3.1;omega) (fun _ _ _ _ _ _ q => q) fun _ _ => rfl
 have k1 : Kept g g1 [] := ⟨by have := a3.1;omega,fun b hb _ => (a4 b (by omega) (fun o n c e => by injection e with e;injection e with e;injection e with e;omega)).trans (k0.get hb (by simp))⟩
 have k2 : Kept g g2 [] := ⟨Nat.le_trans k1.1 c3.1,fun b hb _ => (c4 b (Nat.lt_of_lt_of_le hb k1.1) (by omega)).trans (k1.get hb (by simp))⟩
 have ht : isText v1 = false := a2.sl.ne_text
 rcases c2 with ⟨_,e⟩ | ⟨b,cs,an,e,hk,hg,hcl,hi⟩
 ·simp at e
 ·rw [List.length_append,List.length_singleton] at e
  subst e
  refine ⟨new,v1,g1,g2,b,e1,a1,c1,ht,new_one e2 e3,k2,hk.1,b,_,cs,rfl,Nat.le_refl _,cel_of hg,fun i o ho => ⟨?_,hi i o ho⟩⟩
  have := (List.getElem?_eq_some_iff.1 ho).1
  have h5 : (i + 1) * 5 ≤ (ops ++ [mkOp]).length * 5 := Nat.mul_le_mul_right _ this
  omega
set_option maxHeartbeats 1000000 in
theorem copied_spec {ok : Nat → Prop} {v : Value} {l : List St} (hS : SlR ok 6 StE h v l) (ho : ∀ s ∈ l,s.ops.length * 56 ≤ reachBytes) (hl : l.length * 72 ≤ reachBytes) (hF : l.length < F) : Ans (cf p (F + 1) 13 [v] h) fun w h' => Kept h h' [] ∧ CopM h' w l := by
 rw [cf_step (a := a13) rfl rfl (by simp [a13])]
 have lx := hS.len
 unfold reachBytes at hl
 simp (disch := first|omega|(simp only [zS];first|done|omega)) [bB,a13,r13_0,r13_1,r13_2]
 refine loop_rule (fun m e g => ∃ (i : Nat) (lv : Value),i ≤ l.length ∧ m = l.length - i ∧ Kept h g [] ∧ e = [(0,v),(3,lv),(4,vi i)] ∧ Bld (fun b => h.size ≤ b) 6 RM g lv ((l.take i).map some))
  ?_ F (l.length - 0) _ h (by omega) ⟨0,_,by omega,rfl,Kept.refl _ _,rfl,Bld.nil _ _ _ _⟩
 rintro m e g again ⟨i,lv,hi,rfl,hk,rfl,hB⟩ hag
 by_cases hlt : i < l.length
 ·obtain ⟨x,hxi⟩ : ∃ x,l[i]? = some x := ⟨_,List.getElem?_eq_getElem hlt⟩
  obtain ⟨b,o,c,cs,es,lv1,an,rfl,_,hg0,hl1,ov,okx,hr,hox⟩ := hS.at' hxi
  have hg := (hk.get (lt_of_get hg0) (by simp)).trans hg0
  have hlt' : (i : Int) < l.length := by omega
  have wi : IntKind.i64.wrap ((i : Int) + 1) = (i : Int) + 1 := wrap_in (by omega) (by omega)
  have one := hox.one
  have ol := hox.len
  have hx56 := ho x (List.mem_of_getElem? hxi)
  have kb := rowKept g (stC x ov) 0 []
  have hb : hget (Ev.newRow g (stC x ov) 0 []) g.size = some (.cells (stC x ov) 0 true []) := by simp
  have z1 : (Ev.newRow g (stC x ov) 0 []).size = g.size + 1 := by simp
  have kk := hk.trans kb
  have hox1 := slr_kept hox kk fun _ _ _ q => q
  have hB1 := hB.kept kb (by simp) fun cs y _ q => RM.kept q kb.c
  have hlen6 : (stC x ov).length = 6 := rfl
  obtain ⟨new,v1,g1,g2,bo,a1,a2,a3,a4,a45,a5,abo,a6⟩ := marked hox1 hx56
  have hb2 := (a5.get (b := g.size) (by omega) (by simp)).trans hb
  have one2 := one
  unfold oneCell at one2 a45
  have a46 := eq_true a45
  have ntx := hox.ne_text
  unfold isText at ntx a4
  have eqz : Ev.newRow g [vi x.kind,vi x.a,vi x.b,vi x.c,vs x.place,ov] 0 [] = Ev.newRow g (stC x ov) 0 [] := rfl
  have hbs := lt_of_get hb2
  simp (disch := first|omega|(simp only [zS];first|done|omega)) [bB,l13_9,r13_3,lx,hlt',r13_4,hg,hl1,hr,stC,one2,r13_5,ol]
  rw [eqz]
  generalize Ev.newRow g (stC x ov) 0 [] = g0 at *
  have hb' := hb
  simp only [stC] at hb' hb2
  have eqm : ∀ g,Ev.newRow g [vi (-7),.string { data := #[] },.string { data := #[] },vi 0,vi 0] 5 [] = Ev.newRow g (opC mkOp) 5 [] := fun g => rfl
  have eqo : opC mkOp = [vi (-7),.string { data := #[] },.string { data := #[] },vi 0,vi 0] := rfl
  rw [eqo] at a3
  simp (disch := first|omega|(simp only [zS];first|done|omega)) [bB,r13_6,hb',a1,a2,a3,a4,a46,ntx]
  have hlt5 : x.ops.length ≤ x.ops.length + 1 := by omega
  simp (disch := first|omega|(simp only [zS];first|done|omega)) [bB,srcOf,isText,a3,a4,hb2]
  have k3 : Kept g (g2.setIfInBounds g.size (.cells (stC x (.slice (some ⟨bo,0,none⟩) x.ops.length (x.ops.length + 1))) 0 true [])) [] := kept_set (kb.trans a5) (Nat.le_refl _)
  have b3 : hget (g2.setIfInBounds g.size (.cells (stC x (.slice (some ⟨bo,0,none⟩) x.ops.length (x.ops.length + 1))) 0 true [])) g.size = some (.cells (stC x (.slice (some ⟨bo,0,none⟩) x.ops.length (x.ops.length + 1))) 0 true []) := by simp [hbs]
  have a7 : OvM (g2.setIfInBounds g.size (.cells (stC x (.slice (some ⟨bo,0,none⟩) x.ops.length (x.ops.length + 1))) 0 true [])) (.slice (some ⟨bo,0,none⟩) x.ops.length (x.ops.length + 1)) x.ops := by
   obtain ⟨b',c',cs',e1,e2,e3,e4⟩ := a6
   injection e1 with e1 _ e1'
   injection e1 with e1
   injection e1 with e1
   subst e1
   refine ⟨bo,_,cs',rfl,by omega,?_,e4⟩
   rw [← e3]
   exact cel_congr (set_other (by omega))
  have eqs : ∀ g4 : H,g4.setIfInBounds g.size (.cells [vi x.kind,vi x.a,vi x.b,vi x.c,vs x.place,.slice (some ⟨bo,0,none⟩) x.ops.length (x.ops.length + 1)] 0 true []) = g4.setIfInBounds g.size (.cells (stC x (.slice (some ⟨bo,0,none⟩) x.ops.length (x.ops.length + 1))) 0 true []) := fun _ => rfl
  rw [eqs]
  have hB3 := hB.kept k3 (by simp) fun cs y _ q => RM.kept q k3.c
  generalize g2.setIfInBounds g.size (.cells (stC x (.slice (some ⟨bo,0,none⟩) x.ops.length (x.ops.length + 1))) 0 true []) = g3 at *
  have kk3 := hk.trans k3
  have hs3 := kk3.1
  obtain ⟨v5,g5,c1,c2,c3,c4⟩ := bld_put1 hB3 (bytes := 72) (stC x (.slice (some ⟨bo,0,none⟩) x.ops.length (x.ops.length + 1))) (x := some x) rfl (by simp;omega) (by omega) (fun h1 h2 k cs y _ q => RM.kept q k) fun h' k => ⟨_,rfl,a7.kept k⟩
  have k5 : Kept h g5 [] := ⟨Nat.le_trans hs3 c3.1,fun b hb _ => (c4 b (Nat.lt_of_lt_of_le hb hs3) (by omega)).trans (kk3.2 b hb (by simp))⟩
  simp only [stC] at b3 c1
  simp (disch := first|omega|(simp only [zS];first|done|omega)) [bB,r13_7,b3,srcOf,isText,c1,r13_8,wi]
  exact hag (l.length - (i + 1)) [(0,_),(3,v5),(4,vi ((i : Int) + 1))] _ (by omega) ⟨i + 1,v5,by omega,rfl,k5,rfl,by rw [List.take_add_one,hxi];simpa using c2⟩
 ·have : i = l.length := by omega
  subst this
  rw [List.take_length] at hB
  have ln := hB.sl.len
  obtain ⟨v5,g5,c1,c2,c3,c4⟩ := bld_put1 hB (bytes := 72) mkSt (x := none) rfl (by simp;omega) (by have := hk.1;omega) (fun h1 h2 k cs y _ q => RM.kept q k) fun h' k => rfl
  have k5 : Kept h g5 [] := ⟨Nat.le_trans hk.1 c3.1,fun b hb _ => (c4 b (Nat.lt_of_lt_of_le hb hk.1) (by omega)).trans (hk.2 b hb (by simp))⟩
  have ntx := hB.sl.ne_text
  unfold isText at ntx
  rcases c2 with ⟨_,e⟩ | ⟨b,cs,an,e,hk',hg,hcl,hi'⟩
  ·simp at e
  ·rw [List.length_append,List.length_map,List.length_singleton] at e
   subst e
   rw [List.length_map] at ln
   have eqk : mkSt = [vi (-7),vi 0,vi 0,vi 0,.string { data := #[] },.slice none 0 0] := rfl
   rw [eqk] at c1
   simp (disch := first|omega|(simp only [zS];first|done|omega)) [bB,l13_9,r13_3,lx,r13_10,ln,r13_11,srcOf,isText,c1,ntx,r13_12]
   refine Ans.of ⟨k5,b,_,cs,rfl,Nat.le_refl _,cel_of hg,fun i x hx => ⟨?_,hi' i x hx⟩⟩
   have := (List.getElem?_eq_some_iff.1 hx).1
   have h5 : (i + 1) * 6 ≤ (l.map some ++ [none]).length * 6 := Nat.mul_le_mul_right _ this
   omega
end Go.Proofs.YtnoghchcboiojaaGreatDoor
end
section
set_option maxRecDepth 100000
namespace Go.Proofs.YtnoghchcboiojaaGreatDoor
open Go.Ev
open Go.Rn (Bs Tok Ru St PRes)
variable {p : Bool} {F : Nat} {h : H}
theorem take_head {cs : List Value} {o n : Nat} {a : Value} {t : List Value} (hn : 0 < n) (e : (cs.drop o).take n = a :: t) : (cs.drop o).take 1 = [a] ∧ o + 1 ≤ cs.length := by
 cases hd : cs.drop o with
 | nil => rw [hd] at e;simp at e
 | cons b l =>
  rw [hd] at e
  obtain ⟨n,rfl⟩ : ∃ m,n = m + 1 := ⟨n - 1,by omega⟩
  simp only [List.take_succ_cons] at e
  injection e with e1 e2
  have : (cs.drop o).length = l.length + 1 := by rw [hd];rfl
  rw [List.length_drop] at this
  exact ⟨by simp [e1],by omega⟩
set_option maxHeartbeats 1000000 in
theorem kept_spec {ok : Nat → Prop} {v w : Value} {l : List St} (hC : CopM h v l) (hw : SlR ok 6 StE h w l) (hl : l.length < 4398046511104) (ho : ∀ s ∈ l,s.ops.length < 4398046511104) (hF : 4398046511200 < F) : Ans (cf p (F + 3) 16 [v,w] h) fun x h' => h' = h ∧ x = .bool true := by
 rw [cf_step (a := a16) rfl rfl (by simp [a16])]
 have e1 := steps_eq (p := p) (h := h) (F := F) hC.sl hw (by omega) (by omega) (fun s hs => by have := ho s hs;exact ⟨by omega,by omega⟩)
 simp only [decide_true] at e1
 obtain ⟨b,c,cs,rfl,hc,hb,hi⟩ := hC
 obtain ⟨es,lv,an,hg⟩ := cel_inv hb
 obtain ⟨m1,m2⟩ := hi l.length none (by rw [List.getElem?_append_right (by simp)];simp)
 obtain ⟨m3,m4⟩ := take_head (by decide) (show (cs.drop (l.length * 6)).take 6 = vi (-7) :: [vi 0,vi 0,vi 0,vs [],.slice none 0 0] from m2)
 have w1 : IntKind.i64.wrap ((l.length : Int) + 1) = (l.length : Int) + 1 := wrap_in (by omega) (by omega)
 simp (disch := first|omega|(simp only [zS];first|done|omega)) [bB,a16,r16_0,r16_1,e1,aUn,w1,hg,m3,m4,r16_3]
 refine loop_rule (fun m e g => ∃ i : Nat,i ≤ l.length ∧ m = l.length - i ∧ g = h ∧ e = [(0,.slice (some ⟨b,0,none⟩) l.length c),(5,vi i)])
  ?_ (F + 2) (l.length - 0) _ h (by omega) ⟨0,by omega,rfl,rfl,rfl⟩
 rintro m e g again ⟨i,hi',rfl,rfl,rfl⟩ hag
 by_cases hlt : i < l.length
 ·obtain ⟨x,hxi⟩ : ∃ x,l[i]? = some x := ⟨_,List.getElem?_eq_getElem hlt⟩
  obtain ⟨n1,ov,n2,bo,co,cso,rfl,o2,o3,o4⟩ := hi i (some x) (by rw [List.getElem?_append_left (by simpa using hlt)];simp [hxi])
  obtain ⟨eso,lvo,ano,hgo⟩ := cel_inv o3
  have hx := ho x (List.mem_of_getElem? hxi)
  have a5 := fld_of (k := 5) n2 rfl
  obtain ⟨p1,p2⟩ := o4 x.ops.length mkOp (by rw [List.getElem?_append_right (Nat.le_refl _)];simp)
  obtain ⟨p3,p4⟩ := take_head (by decide) (show (cso.drop (x.ops.length * 5)).take 5 = vi (-7) :: [vs [],vs [],vi 0,vi 0] from p2)
  have hlt' : (i : Int) < l.length := by omega
  have wi : IntKind.i64.wrap ((i : Int) + 1) = (i : Int) + 1 := wrap_in (by omega) (by omega)
  have wx : IntKind.i64.wrap ((x.ops.length : Int) + 1) = (x.ops.length : Int) + 1 := wrap_in (by omega) (by omega)
  have c5 : i * 6 + 5 + 1 ≤ cs.length := by omega
  simp (disch := first|omega|(simp only [zS];first|done|omega)) [bB,l16_8,r16_4,hlt',d16_5,hg,a5,c5,wx,hgo,p3,p4,r16_7,wi,dk_go,chks_nil,chks_cons,chkA_nil,chkA_cons,chk1_no,chk1_yes,chkV_some,hAt_eq,hOf_some,hOf_none,sameV,sameL,sameCell]
  exact hag (l.length - (i + 1)) [(0,_),(5,vi ((i : Int) + 1))] _ (by omega) ⟨i + 1,by omega,rfl,rfl,rfl⟩
 ·have : i = l.length := by omega
  subst this
  simp (disch := first|omega|(simp only [zS];first|done|omega)) [bB,l16_8,r16_4,r16_9]
  exact Ans.of ⟨rfl,rfl⟩
theorem law4 (hG : Glo h) (hR : GloR h) (h14 : 14 ≤ h.size) (hF : 4398046511200 < F) (r : Ru) (hr : RuN r) (v : Value) (l : List St) (hI : InS h v l) : Ans (cf true (F + 12) 4 [.agg ⟨ruC r⟩,v] h) fun v _ => v = .bool true := by
 rw [cf_step (a := a4) rfl rfl (by simp [a4])]
 have q3 : F + 8 + 3 = F + 11 := by omega
 have q4 : F + 10 + 1 = F + 11 := by omega
 have q6 : F - 1 + 12 = F + 11 := by omega
 have hl := hI.len
 have ho : ∀ s ∈ l,StN s ∧ s.ops.length < 4398046511104 := fun s hs => ⟨(hI.ok s hs).1,by have := (hI.ok s hs).2;unfold reachBytes at this;omega⟩
 unfold reachBytes at hl
 have e3 := fun (h1 : H) (k : Kept h h1 []) => fixed_spec (h := h1) (F := F) (hG.kept0 k) (Nat.le_trans h14 k.1) hF
 have e4 := fun (h1 : H) (ok : Nat → Prop) (v w : Value) (hx : CopM h1 v l) (hy : SlR ok 6 StE h1 w l) =>
  kept_spec (p := true) (h := h1) (F := F + 8) hx hy (by omega) (fun s hs => (ho s hs).2) (by omega)
 have e5 := fun (h1 : H) (k : Kept h h1 []) (ok : Nat → Prop) (v : Value) => print_call (F := F + 10) (ok := ok) (v := v) (l := l) (r := r) (hG.kept0 k)
 have e6 := fun (h1 : H) (k : Kept h h1 []) (ok : Nat → Prop) (v : Value) (hS : SlR ok 6 StE h1 v l) => rprint_w (p := true) (F := F - 1) (h := h1) (v := v) r hr l hS (by omega) ho (hR.kept k) (by omega)
 have e7 := fun (h1 : H) (k : Kept h h1 []) => copied_spec (p := true) (F := F + 10) (h := h1) (v := v) (l := l) (slr_kept hI.sl k fun _ _ _ q => q.kept k) (fun s hs => (hI.ok s hs).2) hI.len (by omega)
 rw [q3] at e4
 rw [q4] at e5 e7
 rw [q6] at e6
 generalize cf true (F + 11) = c at *
 have hex : ∃ a b c d e f : Int,ruC r = [vi a,vi b,vi c,vi d,vi e,vi f] := ⟨_,_,_,_,_,_,rfl⟩
 generalize hzz : Rn.print r l = z at *
 generalize ruC r = R at *
 obtain ⟨na,nb,nc,nd,ne,nf,rfl⟩ := hex
 have k1 := rowKept h [vi na,vi nb,vi nc,vi nd,vi ne,vi nf] 0 []
 have hA : hget (Ev.newRow h [vi na,vi nb,vi nc,vi nd,vi ne,vi nf] 0 []) h.size = some (.cells [vi na,vi nb,vi nc,vi nd,vi ne,vi nf] 0 true []) := by simp
 have z1 : (Ev.newRow h [vi na,vi nb,vi nc,vi nd,vi ne,vi nf] 0 []).size = h.size + 1 := by simp
 simp (disch := first|omega|(simp only [zS];first|done|omega)) [bB,a4,r4_0,r4_1]
 generalize Ev.newRow h [vi na,vi nb,vi nc,vi nd,vi ne,vi nf] 0 [] = g1 at *
 refine Ans.next (e7 _ k1) ?_
 rintro x g2 ⟨k2,hx⟩
 have k02 := k1.trans k2
 have hA2 := (k2.get (b := h.size) (by omega) (by simp)).trans hA
 have nx := one_np hx.sl.one
 simp (disch := first|omega|(simp only [zS];first|done|omega)) [bB,nx,r4_2]
 refine Ans.next (e7 _ k02) ?_
 rintro y g3 ⟨k3,hy⟩
 have k03 := k02.trans k3
 have hA3 := (k3.get (b := h.size) (by have := k2.1;omega) (by simp)).trans hA2
 have ny := one_np hy.sl.one
 have hx3 := hx.kept k3.c
 have e5a := e5 _ k03 _ _ hx3.sl
 obtain ⟨tt,cc,hz,hz2⟩ := printV_code z
 rw [hz] at e5a
 simp (disch := first|omega|(simp only [zS];first|done|omega)) [bB,ny,r4_3,hA3,e5a,r4_4]
 refine Ans.next (e6 _ k03 _ _ hy.sl) ?_
 rintro w g4 ⟨k4,rfl⟩
 rw [hz]
 have k04 := k03.trans k4
 simp (disch := first|omega|(simp only [zS];first|done|omega)) [bB,r4_5]
 refine Ans.next (e3 _ k04) ?_
 rintro w g5 ⟨k5,rfl⟩
 have hx5 := hx3.kept (k4.trans k5).c
 have hy5 := hy.kept (k4.trans k5).c
 have e4a := e4 _ _ _ _ hx5 hy5.sl
 simp (disch := first|omega|(simp only [zS];first|done|omega)) [bB,r4_6,ofB_beq]
 refine Ans.next e4a ?_
 rintro w g6 ⟨rfl,rfl⟩
 simp (disch := first|omega|(simp only [zS];first|done|omega)) [bB]
 exact Ans.of rfl
end Go.Proofs.YtnoghchcboiojaaGreatDoor
end
