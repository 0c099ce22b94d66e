/- Texts of the proofs over heraldlaw20, put together by a program (merge20.py): Nd17 Nd18 Nd19 Nd20 Nd21 Nd22 Ne0 Ne1 Ne2 Ne3 Ne4 Ne5 Ne6 Ne7 Ne8. -/
import Derived.Test.YtalamcchkkdelaaGreatDoorC13
set_option linter.unusedVariables false
set_option linter.unusedSimpArgs false
section
set_option maxRecDepth 100000
namespace Go.Proofs.YtalamcchkkdelaaGreatDoor
open Go.Ev
variable {F : Nat} {h : H}
theorem bld_put1 {α : Type} {ok : Nat → Prop} {w bytes : Nat} {R : H → List Value → α → Prop} {v : Value} {xs : List α} (s : Bld ok w R h v xs) (new : List Value) {x : α} (hn : new.length = w) (hb : (xs.length + 1) * bytes ≤ 2 ^ 47)
  (hok : ok (h.size + 1)) (hR : ∀ h1 h2,KeptC h1 h2 [] → ∀ cs,∀ y ∈ xs,R h1 cs y → R h2 cs y) (hx : ∀ h',KeptC h h' [] → R h' new x) :
  ∃ v' h',appendTo (Ev.newRow h new w []) w bytes v 1 new = some (v',h') ∧ Bld ok w R h' v' (xs ++ [x]) ∧ h.size ≤ h'.size ∧ (∀ b,b < h.size → ¬ ok b → hget h' b = hget h b) := by
 have k0 := rowKept h new w []
 have s1 := s.kept k0 (by simp) fun cs y hy q => hR _ _ k0.c cs y hy q
 obtain ⟨v',h',e,h1,h2,_,h4,_⟩ := s1.app (x := x) (bytes := bytes) hn hb (by simpa using hok) (fun h' k cs y hy q => hR _ _ k cs y hy q) fun h' k => hx h' (k0.c.trans k)
 refine ⟨v',h',e,h1,(k0.c.trans h2).1,fun b hb hn => ?_⟩
 rw [h4 b (by have := k0.1;omega) (s1.ne hn),k0.get hb (by simp)]
def xZ : List Value := [vi 0,.string ⟨#[]⟩,.string ⟨#[]⟩,vi 0,vi 0,.string ⟨#[]⟩,vi 0,vi 0,vi 0,.slice none 0 0,.bool false,vi 0,.slice none 0 0,.bool false,vi 0,vi 0,.string ⟨#[]⟩,vi 0,vi 0,vi 0,.string ⟨#[]⟩,vi 0,.slice none 0 0,.slice none 0 0,.string ⟨#[]⟩,.string ⟨#[]⟩]
structure Ac where
 kind : Int
 a : Int
 b : Int
 data : ByteArray
 names : List Int
 td : Td
def acC (x : Ac) (v vo vr vc vp vn : Value) : List Value := vi x.kind :: vi x.a :: vi x.b :: .string x.data :: v :: tdC x.td vo vr vc vp vn
theorem ac_len (x : Ac) (v vo vr vc vp vn : Value) : (acC x v vo vr vc vp vn).length = 31 := rfl
def wZ : List Value := [vi 0,.string ⟨#[]⟩,vi 0,vi 0,vi 0,.string ⟨#[]⟩,vi 0,.slice none 0 0]
def PicV (b : Int) (h : H) (v : Value) (h' : H) : Prop := Kept h h' [] ∧ ∃ nv ns,v = .agg ⟨[vi b,.string ⟨#[]⟩,vi 0,nv]⟩ ∧ SlR (fun b => h.size ≤ b) 3 SnR h' nv ns ∧ ns.length ≤ 7 ∧ ∀ n ∈ ns,slen n.place ≤ 100
structure PI (h g : H) (ac : List Value) (b : Int) (nv : Value) (ns : List Sn) : Prop where
 k : Kept h g []
 b1 : hget g h.size = some (.cells xZ 0 true [])
 b2 : hget g (h.size + 1) = some (.cells ac 0 true [])
 b3 : hget g (h.size + 2) = some (.cells [vi 0,.string ⟨#[]⟩,vi 0,.slice none 0 0] 0 true [])
 b4 : hget g (h.size + 3) = some (.cells wZ 0 true [])
 b5 : hget g (h.size + 4) = some (.cells [vi b,.string ⟨#[]⟩,vi 0,nv] 0 true [])
 l : Bld (fun b => h.size + 5 ≤ b) 3 SnR g nv ns
 p : ∀ n ∈ ns,slen n.place ≤ 100
theorem PI.kept {h g g' : H} {ac : List Value} {b : Int} {nv : Value} {ns : List Sn} (s : PI h g ac b nv ns) (k : Kept g g' []) : PI h g' ac b nv ns :=
 ⟨s.k.trans k,kget s.b1 k,kget s.b2 k,kget s.b3 k,kget s.b4 k,kget s.b5 k,s.l.frame k fun _ _ q => q,s.p⟩
theorem PI.put {h g g' : H} {ac : List Value} {b : Int} {nv nv' : Value} {ns ns' : List Sn} (s : PI h g ac b nv ns) (hz : g.size ≤ g'.size) (fr : ∀ c,c < g.size → ¬ h.size + 5 ≤ c → hget g' c = hget g c) (l : Bld (fun b => h.size + 5 ≤ b) 3 SnR g' nv' ns') (p : ∀ n ∈ ns',slen n.place ≤ 100) :
  PI h (g'.setIfInBounds (h.size + 4) (.cells [vi b,.string ⟨#[]⟩,vi 0,nv'] 0 true [])) ac b nv' ns' := by
 have q5 := lt_of_get s.b5
 have q4 := lt_of_get s.b4
 have ft : ∀ c x,c < h.size + 4 → hget g c = some x → hget (g'.setIfInBounds (h.size + 4) (.cells [vi b,.string ⟨#[]⟩,vi 0,nv'] 0 true [])) c = some x := fun c x hc e => by
  rw [set_other (by omega),fr c (lt_of_get e) (by omega)];exact e
 refine ⟨⟨by simp;have := s.k.1;omega,fun c hc hn => ?_⟩,ft _ _ (by omega) s.b1,ft _ _ (by omega) s.b2,ft _ _ (by omega) s.b3,ft _ _ (by omega) s.b4,by rw [set_self rfl (by omega)],?_,p⟩
 ·rw [set_other (by omega),fr c (by have := s.k.1;omega) (by omega)]
  exact s.k.2 c hc hn
 ·exact l.kept (L := [h.size + 4]) ⟨by simp,fun c hc hn => set_other (fun e => hn (by simp [e]))⟩ (by simp) fun _ _ _ q => q
set_option maxHeartbeats 4000000 in
theorem picture_spec {v vo vr vc vp vn : Value} {x : Ac} (hN : SlR T 1 IntR h v x.names) (hn : x.names.length ≤ 2097152) (hF : Big F) : Ans (cf (F + 3) 74 [.agg ⟨xZ⟩,.agg ⟨acC x v vo vr vc vp vn⟩] h) (PicV x.b h) := by
 unfold Big at hF
 rw [cf_step (a := a74) rfl rfl (by simp [a74])]
 have e1 := fun (g : H) (n : Int) => named_spec (F := F) (h := g) 0 n (by omega)
 have e2 := fun (g : H) (s t : ByteArray) (hs : slen s ≤ 140737488355328) (ht : slen t ≤ 140737488355328) => below_spec (F := F + 1) (h := g) s t hs ht
 generalize cf (F + 2) = c at *
 obtain ⟨ac,hac⟩ : ∃ l,l = acC x v vo vr vc vp vn := ⟨_,rfl⟩
 have acl : ac.length = 31 := by rw [hac];rfl
 have ac1 : (ac.drop 1).take 1 = [vi x.a] := by rw [hac];rfl
 have ac2 : (ac.drop 2).take 1 = [vi x.b] := by rw [hac];rfl
 have ac3 : (ac.drop 3).take 1 = [.string x.data] := by rw [hac];rfl
 have ac4 : (ac.drop 4).take 1 = [v] := by rw [hac];rfl
 rw [← hac]
 clear hac
 have k1 := rowKept h xZ 0 []
 have b1 : hget (Ev.newRow h xZ 0 []) h.size = some (.cells xZ 0 true []) := by simp
 have z1 : (Ev.newRow h xZ 0 []).size = h.size + 1 := by simp
 simp (disch := first|omega|(simp only [zS];first|done|omega)) [bB,a74,r74_0]
 generalize Ev.newRow h xZ 0 [] = g1 at *
 have k2 := rowKept g1 ac 0 []
 have b2 : hget (Ev.newRow g1 ac 0 []) (h.size + 1) = some (.cells ac 0 true []) := by rw [← z1];simp
 have z2 : (Ev.newRow g1 ac 0 []).size = h.size + 2 := by simp [z1]
 have b1 := kget b1 k2
 have k2 := k1.trans k2
 generalize Ev.newRow g1 ac 0 [] = g2 at *
 have k3 := rowKept g2 [vi 0,.string ⟨#[]⟩,vi 0,.slice none 0 0] 0 []
 have b3 : hget (Ev.newRow g2 [vi 0,.string ⟨#[]⟩,vi 0,.slice none 0 0] 0 []) (h.size + 2) = some (.cells [vi 0,.string ⟨#[]⟩,vi 0,.slice none 0 0] 0 true []) := by rw [← z2];simp
 have z3 : (Ev.newRow g2 [vi 0,.string ⟨#[]⟩,vi 0,.slice none 0 0] 0 []).size = h.size + 3 := by simp [z2]
 have b1 := kget b1 k3
 have b2 := kget b2 k3
 have k3 := k2.trans k3
 generalize Ev.newRow g2 [vi 0,.string ⟨#[]⟩,vi 0,.slice none 0 0] 0 [] = g3 at *
 have b1' := b1
 simp only [xZ] at b1'
 simp (disch := first|omega|(simp only [zS];first|done|omega)) [bB,r74_1,b1',z1,z2,z3]
 show Ans (evR _ r74_2 _ (Ev.newRow g3 wZ 0 []) _ _ _) _
 have k4 := rowKept g3 wZ 0 []
 have b4 : hget (Ev.newRow g3 wZ 0 []) (h.size + 3) = some (.cells wZ 0 true []) := by rw [← z3];simp
 have z4 : (Ev.newRow g3 wZ 0 []).size = h.size + 4 := by simp [z3]
 have b1 := kget b1 k4
 have b2 := kget b2 k4
 have b3 := kget b3 k4
 have k4 := k3.trans k4
 generalize Ev.newRow g3 wZ 0 [] = g4 at *
 have b4' := b4
 simp only [wZ] at b4'
 simp (disch := first|omega|(simp only [zS];first|done|omega)) [bB,r74_2,b2,acl,ac2,b4',z4]
 have k5 := rowKept g4 [vi x.b,.string ⟨#[]⟩,vi 0,.slice none 0 0] 0 []
 have b5 : hget (Ev.newRow g4 [vi x.b,.string ⟨#[]⟩,vi 0,.slice none 0 0] 0 []) (h.size + 4) = some (.cells [vi x.b,.string ⟨#[]⟩,vi 0,.slice none 0 0] 0 true []) := by rw [← z4];simp
 have z5 : (Ev.newRow g4 [vi x.b,.string ⟨#[]⟩,vi 0,.slice none 0 0] 0 []).size = h.size + 5 := by simp [z4]
 have b1 := kget b1 k5
 have b2 := kget b2 k5
 have b3 := kget b3 k5
 have b4 := kget b4 k5
 have k5 := k4.trans k5
 generalize Ev.newRow g4 [vi x.b,.string ⟨#[]⟩,vi 0,.slice none 0 0] 0 [] = g5 at *
 clear k1 k2 k3 k4 b1' b4' z1 z2 z3 z4
 have b4' := b4
 simp only [wZ] at b4'
 have b4s := lt_of_get b4
 have b5s := lt_of_get b5
 simp (disch := first|omega|(simp only [zS];first|done|omega)) [bB,r74_3,b4',r74_7,b5,b5s,r74_8]
 have k6 := rowKept g5 [.string ⟨#[]⟩,.string ⟨#[]⟩,vi 0] 3 []
 have b6 : hget (Ev.newRow g5 [.string ⟨#[]⟩,.string ⟨#[]⟩,vi 0] 3 []) (h.size + 5) = some (.cells [.string ⟨#[]⟩,.string ⟨#[]⟩,vi 0] 3 true []) := by rw [← z5];simp
 have z6 : (Ev.newRow g5 [.string ⟨#[]⟩,.string ⟨#[]⟩,vi 0] 3 []).size = h.size + 6 := by simp [z5]
 have pi0 : PI h (Ev.newRow g5 [.string ⟨#[]⟩,.string ⟨#[]⟩,vi 0] 3 []) ac x.b (.slice none 0 0) [] := by
  have e : PI h g5 ac x.b (.slice none 0 0) [] := ⟨k5,b1,b2,b3,b4,b5,Bld.nil _ _ _ _,by simp⟩
  exact e.kept k6
 have pi1 := pi0.put (Nat.le_refl _) (fun _ _ _ => rfl) (nv' := .slice (some ⟨h.size + 5,0,none⟩) 1 1) (ns' := [⟨⟨#[]⟩,⟨#[]⟩,0⟩]) (.inr ⟨h.size + 5,_,[],rfl,⟨Nat.le_refl _,by simp⟩,b6,rfl,fun i y hy => by
  cases i with
  | zero => simp at hy;subst hy;rfl
  | succ i => simp at hy⟩) (by simp [show slen (ByteArray.mk #[]) = 0 from rfl])
 rw [z5]
 refine loop_rule (fun m e g => ∃ (k : Nat) (nv : Value) (ns : List Sn),k ≤ 6 ∧ m = 6 - k ∧ PI h g ac x.b nv ns ∧ ns.length ≤ k + 1 ∧ e = [(2,.pointer (some ⟨h.size,0,none⟩)),(3,.pointer (some ⟨h.size + 1,0,none⟩)),(4,.pointer (some ⟨h.size + 2,0,none⟩)),(5,.pointer (some ⟨h.size + 3,0,none⟩)),(6,.pointer (some ⟨h.size + 4,0,none⟩)),(7,vi k)])
  ?_ (F + 2) 6 _ _ (by omega) ⟨0,_,_,by omega,rfl,pi1,by simp,rfl⟩
 clear pi0 pi1 b1 b2 b3 b4 b5 b4' b4s b5s k5 k6 b6 z5 z6
 rintro m e g again ⟨k,nv,ns,hk,hmk,hI,hnl,rfl⟩ hag
 have hS0 := lt_of_get hI.b5
 by_cases hlt : k < 6
 ·have hlt' : (k : Int) < 6 := by omega
  have wk : IntKind.i64.wrap ((k : Int) + 1) = ((k + 1 : Nat) : Int) := by rw [wrap_in (by omega) (by omega)];omega
  have lN := hN.len
  simp (disch := first|omega|(simp only [zS];first|done|omega)) [bB,l74_22,r74_9,hlt',r74_10,r74_11]
  refine loop_rule (fun m e g' => ∃ (j : Nat) (b : Bool),j ≤ x.names.length ∧ m = x.names.length - j ∧ g' = g ∧ e = [(2,.pointer (some ⟨h.size,0,none⟩)),(3,.pointer (some ⟨h.size + 1,0,none⟩)),(4,.pointer (some ⟨h.size + 2,0,none⟩)),(5,.pointer (some ⟨h.size + 3,0,none⟩)),(6,.pointer (some ⟨h.size + 4,0,none⟩)),(7,vi k),(8,.bool b),(9,vi j)])
   ?_ (F + 2) (x.names.length - 0) _ g (by omega) ⟨0,false,by omega,rfl,rfl,rfl⟩
  rintro m e g' again' ⟨j,b,hj,rfl,hgg,rfl⟩ hag'
  have hgg' := hgg.symm
  subst hgg'
  by_cases hjl : j < x.names.length
  ·have hjl' : (j : Int) < x.names.length := by omega
   obtain ⟨n,hn'⟩ : ∃ n,x.names[j]? = some n := ⟨_,List.getElem?_eq_getElem hjl⟩
   have wj : IntKind.i64.wrap ((j : Int) + 1) = ((j + 1 : Nat) : Int) := by rw [wrap_in (by omega) (by omega)];omega
   cases b with
   | true =>
    simp (disch := first|omega|(simp only [zS];first|done|omega)) [bB,l74_15,r74_12,hI.b2,acl,ac4,lN,hjl',r74_13,r74_14,wj]
    exact hag' (x.names.length - (j + 1)) _ _ (by omega) ⟨j + 1,true,hjl,rfl,rfl,rfl⟩
   | false =>
    obtain ⟨b',o,cc,cs,es,lv,an,rfl,hg,hl,hr⟩ := in_at (slr_kept hN hI.k fun _ _ _ q => q) hn'
    simp (disch := first|omega|(simp only [zS];first|done|omega)) [bB,l74_15,r74_12,hI.b2,acl,ac4,hjl',r74_13,hg,hl,hr,r74_14,wj]
    exact hag' (x.names.length - (j + 1)) _ _ (by omega) ⟨j + 1,_,hjl,rfl,rfl,rfl⟩
  ·have hje : j = x.names.length := by omega
   subst hje
   cases b with
   | false =>
    simp (disch := first|omega|(simp only [zS];first|done|omega)) [bB,l74_15,r74_12,hI.b2,acl,ac4,lN,r74_16,r74_21,wk]
    exact hag (6 - (k + 1)) _ _ (by omega) ⟨k + 1,nv,ns,by omega,rfl,hI,by omega,rfl⟩
   | true =>
    have b4' := hI.b4
    simp only [wZ] at b4'
    have b1' := hI.b1
    simp only [xZ] at b1'
    have ky := rowKept g [.string ⟨#[]⟩,.string ⟨#[]⟩,vi 0] 0 []
    have by0 : hget (Ev.newRow g [.string ⟨#[]⟩,.string ⟨#[]⟩,vi 0] 0 []) g.size = some (.cells [.string ⟨#[]⟩,.string ⟨#[]⟩,vi 0] 0 true []) := by simp
    have sy : g.size < (Ev.newRow g [.string ⟨#[]⟩,.string ⟨#[]⟩,vi 0] 0 []).size := by simp
    have hIy := hI.kept ky
    have b4y := hIy.b4
    simp only [wZ] at b4y
    have b1y := hIy.b1
    simp only [xZ] at b1y
    simp (disch := first|omega|(simp only [zS];first|done|omega)) [bB,l74_15,r74_12,hI.b2,acl,ac4,lN,r74_16,d74_17,b4y,b1y,blanks]
    generalize Ev.newRow g [.string ⟨#[]⟩,.string ⟨#[]⟩,vi 0] 0 [] = gy at *
    refine Ans.nextCD (e1 _ _) ?_
    rintro u g2 ⟨k2,t,rfl,ht⟩
    have b42 := kget b4y k2
    have by2 := kget by0 k2
    have hI2 := hIy.kept k2
    simp (disch := first|omega|(simp only [zS];first|done|omega)) [bB,blanks]
    refine Ans.nextCD (e2 _ _ _ (by simp [show slen (ByteArray.mk #[]) = 0 from rfl]) (by omega)) ?_
    rintro u g2' ⟨rfl,t2,rfl,ht2⟩
    rw [show slen (ByteArray.mk #[]) = 0 from rfl] at ht2
    have sy2 := lt_of_get by2
    simp (disch := first|omega|(simp only [zS];first|done|omega)) [bB,dk_go,chks_nil,chks_cons,chkA_nil,chkA_cons,chk1_no,chk1_yes,chkV_some,hAt_eq,hOf_some,hOf_none,sameV,sameL,sameCell,blanks,b4y,b42,by2,ba_self]
    have b5g : hget g2' (h.size + 4) = _ := hI2.b5
    have hne : ¬ g.size = h.size + 4 := by have := lt_of_get hI.b5;omega
    have hne3 : ¬ g.size = h.size + 3 := by have := lt_of_get hI.b5;omega
    have kS : Kept g2' (g2'.setIfInBounds g.size (.cells [.string t2,.string ⟨#[]⟩,vi 0] 0 true [])) [g.size] := ⟨by simp,fun c hc hn => set_other (fun e => hn (by simp [e]))⟩
    have hI3 : PI h (g2'.setIfInBounds g.size (.cells [.string t2,.string ⟨#[]⟩,vi 0] 0 true [])) ac x.b nv ns := by
     have q := hI2.b5
     have q4 : ∀ c y,c < h.size + 5 → hget g2' c = some y → hget (g2'.setIfInBounds g.size (.cells [.string t2,.string ⟨#[]⟩,vi 0] 0 true [])) c = some y := fun c y hc e => by
      rw [set_other (by have := lt_of_get hI.b5;omega)];exact e
     refine ⟨kept_set hI2.k hI.k.1,q4 _ _ (by omega) hI2.b1,q4 _ _ (by omega) hI2.b2,q4 _ _ (by omega) hI2.b3,q4 _ _ (by omega) hI2.b4,q4 _ _ (by omega) hI2.b5,?_,hI2.p⟩
     have l0 := hI.l.frame (ky.trans k2) fun _ _ q => q
     rcases l0 with l0 | ⟨b,cs,an,e,hk',hg',q'⟩
     ·exact .inl l0
     ·refine .inr ⟨b,cs,an,e,hk',?_,q'⟩
      rcases hI.l with ⟨e2,_⟩ | ⟨b2,cs2,an2,e2,_,hg2,_⟩
      ·rw [e2] at e;cases e
      ·rw [e2] at e
       injection e with e
       injection e with e
       injection e with e
       rw [set_other (by have := lt_of_get hg2;omega)]
       exact hg'
    have by3 : hget (g2'.setIfInBounds g.size (.cells [.string t2,.string ⟨#[]⟩,vi 0] 0 true [])) g.size = some (.cells [.string t2,.string ⟨#[]⟩,vi 0] 0 true []) := by simp [sy2]
    generalize g2'.setIfInBounds g.size (.cells [.string t2,.string ⟨#[]⟩,vi 0] 0 true []) = g3 at *
    have b43 := hI3.b4
    simp only [wZ] at b43
    have hs3 := lt_of_get hI3.b5
    obtain ⟨v',g4,c1,c2,c3,c4⟩ := bld_put1 (bytes := 40) hI3.l [.string t2,.string ⟨#[]⟩,vi 0] (x := ⟨t2,⟨#[]⟩,0⟩) rfl (by omega) (by omega) (fun _ _ _ _ _ _ q => q) (fun _ _ => rfl)
    have hI4 := hI3.put c3 c4 c2 (fun n hn => by
     rcases List.mem_append.1 hn with hn | hn
     ·exact hI3.p n hn
     ·rw [List.mem_singleton] at hn;subst hn;show slen t2 ≤ 100;omega)
    obtain ⟨a5,hv'⟩ := bld_is c2
    rw [List.length_append,List.length_singleton] at hv'
    have b54 : hget g4 (h.size + 4) = some (.cells [vi x.b,.string ⟨#[]⟩,vi 0,nv] 0 true []) := (c4 _ hs3 (by omega)).trans hI3.b5
    have onv := hI3.l.sl.ne_text
    unfold isText at onv
    simp (disch := first|omega|(simp only [zS];first|done|omega)) [bB,r74_18,b43,r74_20,hI3.b5,by3,srcOf,isText,onv,c1]
    rw [hv'] at hI4 ⊢
    simp (disch := first|omega|(simp only [zS];first|done|omega)) [bB,b54,r74_21,wk]
    exact hag (6 - (k + 1)) _ _ (by omega) ⟨k + 1,_,_,by omega,rfl,hI4,by simp;omega,rfl⟩
 ·have hke : k = 6 := by omega
  subst hke
  have q3 := lt_of_get hI.b3
  obtain ⟨a5,hv'⟩ := bld_is hI.l
  have b5 := hI.b5
  rw [hv'] at b5
  simp (disch := first|omega|(simp only [zS];first|done|omega)) [bB,l74_22,r74_9,r74_23,b5,hI.b3]
  rw [← hv']
  exact Ans.of ⟨kept_set hI.k (by omega),nv,ns,rfl,(hI.l.kept (L := [h.size + 2]) ⟨by simp,fun c hc hn => set_other (fun e => hn (by simp [e]))⟩ (by simp) fun _ _ _ q => q).sl.imp (fun b _ q => by omega) (fun _ _ _ q => q) (fun _ _ _ e => e),by omega,hI.p⟩
end Go.Proofs.YtalamcchkkdelaaGreatDoor
end
section
set_option maxRecDepth 100000
namespace Go.Proofs.YtalamcchkkdelaaGreatDoor
open Go.Ev
variable {F : Nat} {h : H}
def CgN (n : Nat) (h : H) (cs : List Value) (c : Cg) : Prop := ∃ v,cs = cgC c v ∧ SlR (fun b => n ≤ b) 1 IntR h v c.tags
theorem CgN.kc {n : Nat} {g g' : H} {L : List Nat} {cs : List Value} {c : Cg} (q : CgN n g cs c) (k : KeptC g g' L) (hL : ∀ b ∈ L,¬ n ≤ b) : CgN n g' cs c := by
 obtain ⟨v,e,s⟩ := q
 exact ⟨v,e,s.kc k hL fun _ _ _ q => q⟩
theorem CgN.r {n : Nat} {g : H} {cs : List Value} {c : Cg} (q : CgN n g cs c) : CgR g cs c := by
 obtain ⟨v,e,s⟩ := q
 exact ⟨v,e,sl_T s⟩
theorem CgN.lo {n m : Nat} {g : H} {cs : List Value} {c : Cg} (q : CgN n g cs c) (h : m ≤ n) : CgN m g cs c := by
 obtain ⟨v,e,s⟩ := q
 exact ⟨v,e,s.imp (fun b _ q => by omega) (fun _ _ _ q => q) fun _ _ _ e => e⟩
def PtN (n : Nat) (h : H) (cs : List Value) (p : Pt) : Prop := ∃ v,cs = ptC p v ∧ SlR (fun b => n ≤ b) 3 SnR h v p.nodes
theorem PtN.kc {n : Nat} {g g' : H} {L : List Nat} {cs : List Value} {c : Pt} (q : PtN n g cs c) (k : KeptC g g' L) (hL : ∀ b ∈ L,¬ n ≤ b) : PtN n g' cs c := by
 obtain ⟨v,e,s⟩ := q
 exact ⟨v,e,s.kc k hL fun _ _ _ q => q⟩
theorem PtN.r {n : Nat} {g : H} {cs : List Value} {c : Pt} (q : PtN n g cs c) : PtR g cs c := by
 obtain ⟨v,e,s⟩ := q
 exact ⟨v,e,sl_T s⟩
def RzN (n : Nat) (h : H) (cs : List Value) (r : Rz) : Prop := ∃ v,cs = rzC r v ∧ SlR (fun b => n ≤ b) 1 TxR h v r.kids
theorem RzN.kc {n : Nat} {g g' : H} {L : List Nat} {cs : List Value} {c : Rz} (q : RzN n g cs c) (k : KeptC g g' L) (hL : ∀ b ∈ L,¬ n ≤ b) : RzN n g' cs c := by
 obtain ⟨v,e,s⟩ := q
 exact ⟨v,e,s.kc k hL fun _ _ _ q => q⟩
theorem RzN.r {n : Nat} {g : H} {cs : List Value} {c : Rz} (q : RzN n g cs c) : RzR g cs c := by
 obtain ⟨v,e,s⟩ := q
 exact ⟨v,e,sl_T s⟩
def ItV (b : Int) (h : H) (v : Value) (h' : H) : Prop := Kept h h' [] ∧ ∃ (b1 : Int) (mark : Bool) (cv pv : Value) (cs : List Cg) (ps : List Pt),v = .agg ⟨[vi b,vi b1,.bool mark,cv,pv]⟩ ∧ SlR (fun b => h.size ≤ b) 5 (CgN h.size) h' cv cs ∧ SlR (fun b => h.size ≤ b) 5 (PtN h.size) h' pv ps ∧
 cs.length ≤ 2097152 ∧ (∀ c ∈ cs,c.tags.length ≤ 2097152) ∧ ps.length ≤ 2097152 ∧ ∀ p ∈ ps,p.nodes.length ≤ 2097152 ∧ ∀ n ∈ p.nodes,slen n.place ≤ 140737488355328
structure II (h g : H) (ac : List Value) (b b1 : Int) (cv : Value) (cs : List Cg) : Prop where
 k : Kept h g []
 p1 : hget g h.size = some (.cells xZ 0 true [])
 p2 : hget g (h.size + 1) = some (.cells ac 0 true [])
 p3 : hget g (h.size + 2) = some (.cells [vi 0,vi 0,.bool false,.slice none 0 0,.slice none 0 0] 0 true [])
 p4 : hget g (h.size + 3) = some (.cells wZ 0 true [])
 p5 : hget g (h.size + 4) = some (.cells [vi b,vi b1,.bool false,cv,.slice none 0 0] 0 true [])
 l : Bld (fun b => h.size + 5 ≤ b) 5 (CgN (h.size + 5)) g cv cs
 t : ∀ c ∈ cs,c.tags.length ≤ 1
theorem II.mv {h g g' : H} {ac : List Value} {b b1 : Int} {cv : Value} {cs : List Cg} {L : List Nat} (s : II h g ac b b1 cv cs) (k : Kept g g' L) (hL : ∀ c ∈ L,h.size + 5 ≤ c) (hl : Bld (fun b => h.size + 5 ≤ b) 5 (CgN (h.size + 5)) g' cv cs) : II h g' ac b b1 cv cs := by
 have ft : ∀ {c : Nat} {x : Blk},hget g c = some x → c < h.size + 5 → hget g' c = some x := fun e hc => (k.get (lt_of_get e) (fun q => by have := hL _ q;omega)).trans e
 exact ⟨⟨Nat.le_trans s.k.1 k.1,fun c hc hn => (k.2 c (Nat.lt_of_lt_of_le hc s.k.1) (fun q => by have := hL _ q;omega)).trans (s.k.2 c hc hn)⟩,ft s.p1 (by omega),ft s.p2 (by omega),ft s.p3 (by omega),ft s.p4 (by omega),ft s.p5 (by omega),hl,s.t⟩
theorem II.kept {h g g' : H} {ac : List Value} {b b1 : Int} {cv : Value} {cs : List Cg} (s : II h g ac b b1 cv cs) (k : Kept g g' []) : II h g' ac b b1 cv cs :=
 s.mv k (by simp) (s.l.frame k fun _ _ q => q.kc k.c (by simp))
theorem II.put {h g g' : H} {ac : List Value} {b b1 : Int} {cv cv' : Value} {cs cs' : List Cg} (s : II h g ac b b1 cv cs) (hz : g.size ≤ g'.size) (fr : ∀ c,c < g.size → ¬ h.size + 5 ≤ c → hget g' c = hget g c) (l : Bld (fun b => h.size + 5 ≤ b) 5 (CgN (h.size + 5)) g' cv' cs') (t : ∀ c ∈ cs',c.tags.length ≤ 1) :
  II h (g'.setIfInBounds (h.size + 4) (.cells [vi b,vi b1,.bool false,cv',.slice none 0 0] 0 true [])) ac b b1 cv' cs' := by
 have q5 := lt_of_get s.p5
 have ft : ∀ c x,c < h.size + 4 → hget g c = some x → hget (g'.setIfInBounds (h.size + 4) (.cells [vi b,vi b1,.bool false,cv',.slice none 0 0] 0 true [])) c = some x := fun c x hc e => by
  rw [set_other (by omega),fr c (lt_of_get e) (by omega)];exact e
 have kS : Kept g' (g'.setIfInBounds (h.size + 4) (.cells [vi b,vi b1,.bool false,cv',.slice none 0 0] 0 true [])) [h.size + 4] := ⟨by simp,fun c hc hn => set_other (fun e => hn (by simp [e]))⟩
 refine ⟨⟨by simp;have := s.k.1;omega,fun c hc hn => ?_⟩,ft _ _ (by omega) s.p1,ft _ _ (by omega) s.p2,ft _ _ (by omega) s.p3,ft _ _ (by omega) s.p4,by rw [set_self rfl (by omega)],?_,t⟩
 ·rw [set_other (by omega),fr c (by have := s.k.1;omega) (by omega)]
  exact s.k.2 c hc hn
 ·exact l.kept kS (by simp) fun _ _ _ q => q.kc kS.c (by simp)
theorem five_rows {a b c d e : List Value} : ∃ g,g = Ev.newRow (Ev.newRow (Ev.newRow (Ev.newRow (Ev.newRow h a 0 []) b 0 []) c 0 []) d 0 []) e 0 [] ∧ Kept h g [] ∧ g.size = h.size + 5 ∧ hget g h.size = some (.cells a 0 true []) ∧ hget g (h.size + 1) = some (.cells b 0 true []) ∧ hget g (h.size + 2) = some (.cells c 0 true []) ∧ hget g (h.size + 3) = some (.cells d 0 true []) ∧ hget g (h.size + 4) = some (.cells e 0 true []) := by
 refine ⟨_,rfl,((((rowKept _ _ _ _).trans (rowKept _ _ _ _)).trans (rowKept _ _ _ _)).trans (rowKept _ _ _ _)).trans (rowKept _ _ _ _),by simp,?_,?_,?_,?_,?_⟩
 all_goals simp (disch := first|omega|(simp only [zS];first|done|omega))
theorem bld_past {α : Type} {ok : Nat → Prop} {w : Nat} {R R' : H → List Value → α → Prop} {g g' : H} {v : Value} {xs : List α} {L : List Nat} (s : Bld ok w R g v xs) (k : Kept g g' L) (hL : ∀ b ∈ L,g.size ≤ b) (hR : ∀ cs,∀ x ∈ xs,R g cs x → R' g' cs x) : Bld ok w R' g' v xs := by
 rcases s with s | ⟨b,cs,an,e,hk,hb,hl,hi⟩
 ·exact .inl s
 ·exact .inr ⟨b,cs,an,e,hk,(k.get (lt_of_get hb) (fun q => by have := hL b q;have := lt_of_get hb;omega)).trans hb,hl,fun i x hx => hR _ _ (List.mem_of_getElem? hx) (hi i x hx)⟩
theorem CgN.past {n : Nat} {g g' : H} {L : List Nat} {cs : List Value} {c : Cg} (q : CgN n g cs c) (k : Kept g g' L) (hL : ∀ b ∈ L,g.size ≤ b) : CgN n g' cs c := by
 obtain ⟨v,e,s⟩ := q
 exact ⟨v,e,s.imp (fun _ _ q => q) (fun _ _ _ q => q) fun b cs _ hb => (cel_congr (k.2 b (cel_lt hb) fun q => by have := hL b q;have := cel_lt hb;omega)).trans hb⟩
theorem II.past {h g g' : H} {ac : List Value} {b b1 : Int} {cv : Value} {cs : List Cg} {L : List Nat} (s : II h g ac b b1 cv cs) (k : Kept g g' L) (hL : ∀ b ∈ L,g.size ≤ b) : II h g' ac b b1 cv cs :=
 s.mv k (fun c hc => by have := hL c hc;have := lt_of_get s.p5;omega) (bld_past s.l k hL fun _ _ _ q => q.past k hL)
set_option maxHeartbeats 2000000 in
theorem item_tail {G : Nat} {cx : Cx} {kn kr : K} {ke : Nat → K} {Q : Value → H → Prop} {g : H} {ac : List Value} {b b1 : Int} {cv : Value} {cs : List Cg} {e : Env} {i : Int} {yb : Nat} {k1 : Int} {s1 s2 : ByteArray}
  (hI : II h g ac b b1 cv cs) (hy : hget g yb = some (.cells [vi k1,.string s1,.string s2,vi 0] 0 true [])) (hl : cs.length ≤ 2097152) (hyb : h.size + 5 ≤ yb)
  (q2 : e.get 2 = .pointer (some ⟨h.size,0,none⟩)) (q3 : e.get 3 = .pointer (some ⟨h.size + 1,0,none⟩)) (q4 : e.get 4 = .pointer (some ⟨h.size + 2,0,none⟩)) (q5 : e.get 5 = .pointer (some ⟨h.size + 3,0,none⟩)) (q6 : e.get 6 = .pointer (some ⟨h.size + 4,0,none⟩)) (q7 : e.get 7 = vi i) (q9 : e.get 9 = .pointer (some ⟨yb,0,none⟩))
  (hk : ∀ g' cv',II h g' ac b b1 cv' (cs ++ [⟨k1,s1,s2,0,[0]⟩]) → Ans (kn [(2,.pointer (some ⟨h.size,0,none⟩)),(3,.pointer (some ⟨h.size + 1,0,none⟩)),(4,.pointer (some ⟨h.size + 2,0,none⟩)),(5,.pointer (some ⟨h.size + 3,0,none⟩)),(6,.pointer (some ⟨h.size + 4,0,none⟩)),(7,vi i)] g' []) Q) :
  Ans (evC G cx (.seq (.seq (.region r75_13 [2,3,4,5,6,7,9,69]) (.cond (.tmp 69) (.region r75_14 [2,3,4,5,6,7,9]) .skip)) (.region r75_15 [2,3,4,5,6,7])) kn ke kr e g []) Q := by
 have p4 := hI.p4
 simp only [wZ] at p4
 have p5 := hI.p5
 simp (disch := first|omega|(simp only [zS];first|done|omega)) [bB,r75_13,q2,q3,q4,q5,q6,q7,q9,p4]
 have onv := hI.l.sl.ne_text
 unfold isText at onv
 have kt := rowKept g [vi 0] 1 []
 have ht : hget (Ev.newRow g [vi 0] 1 []) g.size = some (.cells [vi 0] 1 true []) := by simp
 have zt : (Ev.newRow g [vi 0] 1 []).size = g.size + 1 := by simp
 have hIt := hI.kept kt
 have hgs := lt_of_get p5
 obtain ⟨v',g4,c1,c2,c3,c4⟩ := bld_put1 (bytes := 72) hIt.l [vi k1,.string s1,.string s2,vi 0,.slice (some ⟨g.size,0,none⟩) 1 1] (x := ⟨k1,s1,s2,0,[0]⟩) rfl (by omega) (by omega) (fun _ _ k _ _ _ q => q.kc k (by simp)) (fun h' k => ⟨_,rfl,.inr ⟨g.size,0,1,[vi 0],rfl,Nat.le_refl _,by omega,(k.2 _ (by omega) (by simp)).trans (cel_of ht),fun i y hy => by
  cases i with
  | succ i => simp at hy
  | zero => simp at hy;subst hy;exact ⟨by simp,rfl⟩⟩⟩)
 have hI4 := hIt.put c3 c4 c2 (fun c hc => by
  rcases List.mem_append.1 hc with hc | hc
  ·exact hI.t c hc
  ·rw [List.mem_singleton] at hc;subst hc;exact Nat.le_refl _)
 obtain ⟨a5,hv'⟩ := bld_is c2
 rw [List.length_append,List.length_singleton] at hv'
 have p54 : hget g4 (h.size + 4) = some (.cells [vi b,vi b1,.bool false,cv,.slice none 0 0] 0 true []) := (c4 _ (by omega) (by omega)).trans hIt.p5
 have s54 := lt_of_get p54
 have hys := lt_of_get hy
 have hyt := kget hy kt
 have p4t := kget p4 kt
 simp (disch := first|omega|(simp only [zS];first|done|omega)) [bB,r75_15,q2,q3,q4,q5,q6,q7,q9,p4,p5,hy,srcOf,isText,onv,c1]
 rw [hv'] at hI4 ⊢
 simp (disch := first|omega|(simp only [zS];first|done|omega)) [bB,p54]
 exact hk _ _ hI4
theorem xzl : xZ.length = 26 := rfl
theorem xz0 : (xZ.drop 0).take 1 = [vi 0] := rfl
theorem xz0' : xZ.take 1 = [vi 0] := rfl
theorem xz15 : (xZ.drop 15).take 8 = [vi 0,.string ⟨#[]⟩,vi 0,vi 0,vi 0,.string ⟨#[]⟩,vi 0,.slice none 0 0] := rfl
set_option maxHeartbeats 4000000 in
theorem item_spec {v vo vr vc vp vn : Value} {x : Ac} (hN : SlR T 1 IntR h v x.names) (hn : x.names.length ≤ 2097152) (hF : Big F) : Ans (cf (F + 4) 75 [.agg ⟨xZ⟩,.agg ⟨acC x v vo vr vc vp vn⟩] h) (ItV x.b h) := by
 rw [cf_step (a := a75) rfl rfl (by simp [a75])]
 have e0 := fun (g : H) (k : Kept h g []) => picture_spec (F := F) (h := g) (vo := vo) (vr := vr) (vc := vc) (vp := vp) (vn := vn) (slr_kept hN k fun _ _ _ q => q) hn hF
 unfold Big at hF
 have e1 := fun (g : H) (n : Int) => named_spec (F := F + 1) (h := g) 0 n (by omega)
 have e2 := fun (g : H) (s t : ByteArray) (hs : slen s ≤ 140737488355328) (ht : slen t ≤ 140737488355328) => below_spec (F := F + 2) (h := g) s t hs ht
 generalize cf (F + 3) = c at *
 obtain ⟨ac,hac⟩ : ∃ l,l = acC x v vo vr vc vp vn := ⟨_,rfl⟩
 have acl : ac.length = 31 := by rw [hac];rfl
 have ac1 : ac.tail.take 1 = [vi x.a] := by rw [hac];rfl
 have ac2 : (ac.drop 2).take 1 = [vi x.b] := by rw [hac];rfl
 have ac3 : (ac.drop 3).take 1 = [.string x.data] := by rw [hac];rfl
 have ac4 : (ac.drop 4).take 1 = [v] := by rw [hac];rfl
 have ac0 : ac.take 31 = ac := List.take_of_length_le (by omega)
 rw [← hac] at e0 ⊢
 clear hac
 have xz26 : xZ.take 26 = xZ := rfl
 simp (disch := first|omega|(simp only [zS];first|done|omega)) [bB,a75,r75_0,r75_1,xzl,xz15,r75_2,acl,ac2]
 obtain ⟨g,hg,kg,zg,p1,p2,p3,p4,p5⟩ := five_rows (h := h) (a := xZ) (b := ac) (c := [vi 0,vi 0,.bool false,.slice none 0 0,.slice none 0 0]) (d := wZ) (e := [vi x.b,vi (IntKind.i64.wrap (x.b - 1)),.bool false,.slice none 0 0,.slice none 0 0])
 show Ans (evR _ r75_3 _ (Ev.newRow (Ev.newRow (Ev.newRow (Ev.newRow (Ev.newRow h xZ 0 []) ac 0 []) [vi 0,vi 0,.bool false,.slice none 0 0,.slice none 0 0] 0 []) wZ 0 []) [vi x.b,vi (IntKind.i64.wrap (x.b - 1)),.bool false,.slice none 0 0,.slice none 0 0] 0 []) _ _ _) _
 rw [← hg]
 clear hg
 simp only [Nat.add_assoc,Nat.reduceAdd]
 generalize IntKind.i64.wrap (x.b - 1) = b1 at *
 have p4' := p4
 simp only [wZ] at p4'
 have s5 := lt_of_get p5
 by_cases hodd : x.a.tmod 2 = 0
 case neg =>
  have kS : Kept h (g.setIfInBounds (h.size + 4) (.cells [vi x.b,vi b1,.bool true,.slice none 0 0,.slice none 0 0] 0 true [])) [] := kept_set kg (by omega)
  have st : ∀ c y,c < h.size + 4 → hget g c = some y → hget (g.setIfInBounds (h.size + 4) (.cells [vi x.b,vi b1,.bool true,.slice none 0 0,.slice none 0 0] 0 true [])) c = some y := fun c y hc e => by
   rw [set_other (by omega)];exact e
  have p1 := st _ _ (by omega) p1
  have p2a := st _ _ (by omega) p2
  have p3 := st _ _ (by omega) p3
  have p4 := st _ _ (by omega) p4
  have p5a : hget (g.setIfInBounds (h.size + 4) (.cells [vi x.b,vi b1,.bool true,.slice none 0 0,.slice none 0 0] 0 true [])) (h.size + 4) = some (.cells [vi x.b,vi b1,.bool true,.slice none 0 0,.slice none 0 0] 0 true []) := by rw [set_self rfl s5]
  simp (disch := first|omega|(simp only [zS];first|done|omega)) [bB,r75_3,p2,acl,ac1,hodd,r75_4,p5]
  generalize g.setIfInBounds (h.size + 4) (.cells [vi x.b,vi b1,.bool true,.slice none 0 0,.slice none 0 0] 0 true []) = g1 at *
  have p4' := p4
  simp only [wZ] at p4'
  simp (disch := first|omega|(simp only [zS];first|done|omega)) [bB,d75_5,p4',p1,xzl,xz26,p2a,acl,ac0,blanks]
  refine Ans.nextCD (e0 _ kS) ?_
  rintro u g2 ⟨k2,nv,ns,rfl,hS,hl,hpl⟩
  have vcn := hS.one
  unfold oneCell at vcn
  have p42 := kget p4' k2
  have p52 := kget p5a k2
  have p32 := kget p3 k2
  have s52 := lt_of_get p52
  have s32 := lt_of_get p32
  have hvc := hS.vc
  simp (disch := first|omega|(simp only [zS];first|done|omega)) [bB,dk_go,chks_nil,chks_cons,chkA_nil,chkA_cons,chk1_no,chk1_yes,chkV_some,hAt_eq,hOf_some,hOf_none,sameV,sameL,sameCell,blanks,p4',p42,p52,vcn]
  have z1 : g1.size = g2.size ∨ True := .inr trivial
  have kp := rowKept g2 (ptC ⟨0,x.b,⟨#[]⟩,0,ns⟩ nv) 5 []
  have hp : hget (Ev.newRow g2 (ptC ⟨0,x.b,⟨#[]⟩,0,ns⟩ nv) 5 []) g2.size = some (.cells (ptC ⟨0,x.b,⟨#[]⟩,0,ns⟩ nv) 5 true []) := by simp
  show Ans (evR _ r75_6 _ ((Ev.newRow g2 (ptC ⟨0,x.b,⟨#[]⟩,0,ns⟩ nv) 5 []).setIfInBounds (h.size + 4) (.cells [vi x.b,vi b1,.bool true,.slice none 0 0,.slice (some ⟨g2.size,0,none⟩) 1 1] 0 true [])) _ _ _) _
  have p53 := kget p52 kp
  have p33 := kget p32 kp
  have hS3 := slr_kept hS kp fun _ _ _ q => q
  have kh := (kS.trans k2).trans kp
  have sg := k2.1
  have zz : (Ev.newRow g2 (ptC ⟨0,x.b,⟨#[]⟩,0,ns⟩ nv) 5 []).size = g2.size + 1 := by simp
  generalize Ev.newRow g2 (ptC ⟨0,x.b,⟨#[]⟩,0,ns⟩ nv) 5 [] = g3 at *
  have s53 := lt_of_get p53
  have s33 := lt_of_get p33
  have s5a := lt_of_get p5a
  simp (disch := first|omega|(simp only [zS];first|done|omega)) [bB,r75_6,p53,p33]
  refine Ans.of ⟨kept_set (kept_set kh (by omega)) (by omega),b1,true,_,_,[],[⟨0,x.b,⟨#[]⟩,0,ns⟩],rfl,.inl ⟨.inl rfl,rfl⟩,.inr ⟨g2.size,0,1,ptC ⟨0,x.b,⟨#[]⟩,0,ns⟩ nv,rfl,Nat.le_refl _,by omega,?_,fun i y hy => ?_⟩,by simp,by simp,by simp,fun p hp' => ?_⟩
  ·exact cel_of (by rw [set_other (by omega),set_other (by omega)];exact hp)
  ·cases i with
   | succ i => simp at hy
   | zero =>
    simp at hy
    subst hy
    refine ⟨Nat.le_refl _,nv,rfl,?_⟩
    have kk : KeptC g3 ((g3.setIfInBounds (h.size + 4) (.cells [vi x.b,vi b1,.bool true,.slice none 0 0,.slice (some ⟨g2.size,0,none⟩) 1 1] 0 true [])).setIfInBounds (h.size + 2) (.cells [vi x.b,vi b1,.bool true,.slice none 0 0,.slice (some ⟨g2.size,0,none⟩) 1 1] 0 true [])) [h.size + 4,h.size + 2] :=
     ⟨by simp,fun c hc hn => cel_congr (by
      rw [List.mem_cons,List.mem_singleton,not_or] at hn
      rw [set_other (by omega),set_other (by omega)])⟩
    exact (hS3.kc kk (fun b hb => by
     rw [List.mem_cons,List.mem_singleton] at hb
     rcases hb with rfl | rfl <;> omega) fun _ _ _ q => q).imp (fun b _ q => by omega) (fun _ _ _ q => q) fun _ _ _ e => e
  ·rw [List.mem_singleton] at hp'
   subst hp'
   exact ⟨by show ns.length ≤ _;omega,fun n hn' => by have := hpl n hn';omega⟩
 have lN := hN.len
 simp (disch := first|omega|(simp only [zS];first|done|omega)) [bB,r75_3,p2,acl,ac1,hodd,r75_7]
 refine loop_rule (fun m e g' => ∃ (i : Nat) (cv : Value) (cs : List Cg),i ≤ x.names.length ∧ m = x.names.length - i ∧ II h g' ac x.b b1 cv cs ∧ cs.length = i ∧ e = [(2,.pointer (some ⟨h.size,0,none⟩)),(3,.pointer (some ⟨h.size + 1,0,none⟩)),(4,.pointer (some ⟨h.size + 2,0,none⟩)),(5,.pointer (some ⟨h.size + 3,0,none⟩)),(6,.pointer (some ⟨h.size + 4,0,none⟩)),(7,vi i)])
  ?_ (F + 3) (x.names.length - 0) _ g (by omega) ⟨0,.slice none 0 0,[],by omega,rfl,⟨kg,p1,p2,p3,p4,p5,Bld.nil _ _ _ _,by simp⟩,rfl,rfl⟩
 clear p1 p2 p3 p4 p4' p5 s5 kg zg g
 rintro m e g again ⟨i,cv,cs,hi,rfl,hI,hcl,rfl⟩ hag
 by_cases hlt : i < x.names.length
 ·have hlt' : (i : Int) < x.names.length := by omega
  have wi : IntKind.i64.wrap ((i : Int) + 1) = ((i + 1 : Nat) : Int) := by rw [wrap_in (by omega) (by omega)];omega
  obtain ⟨n,hn'⟩ : ∃ n,x.names[i]? = some n := ⟨_,List.getElem?_eq_getElem hlt⟩
  have hN1 := slr_kept hN hI.k fun _ _ _ q => q
  generalize hvv : v = vv at *
  obtain ⟨b',o,cc,ks,es,lv,an,rfl,hg,hl,hr⟩ := in_at hN1 hn'
  have ky := rowKept g [vi 0,.string ⟨#[]⟩,.string ⟨#[]⟩,vi 0] 0 []
  have hy0 : hget (Ev.newRow g [vi 0,.string ⟨#[]⟩,.string ⟨#[]⟩,vi 0] 0 []) g.size = some (.cells [vi 0,.string ⟨#[]⟩,.string ⟨#[]⟩,vi 0] 0 true []) := by simp
  have hIy := hI.kept ky
  have p4y := hIy.p4
  simp only [wZ] at p4y
  simp (disch := first|omega|(simp only [zS];first|done|omega)) [bB,l75_17,r75_8,hI.p2,acl,ac4,lN,hlt',r75_9,hg,hl,hr,d75_10,hIy.p1,xzl,xz0',p4y,blanks]
  have sg5 := lt_of_get hI.p5
  generalize Ev.newRow g [vi 0,.string ⟨#[]⟩,.string ⟨#[]⟩,vi 0] 0 [] = gy at *
  refine Ans.nextCD (e1 _ _) ?_
  rintro u g2 ⟨k2,t,rfl,ht⟩
  have hI2 := hIy.kept k2
  have p42 := kget p4y k2
  have hy2 := kget hy0 k2
  simp (disch := first|omega|(simp only [zS];first|done|omega)) [bB,blanks]
  refine Ans.nextCD (e2 _ _ _ (by simp [show slen (ByteArray.mk #[]) = 0 from rfl]) (by omega)) ?_
  rintro u g2' ⟨rfl,t2,rfl,ht2⟩
  have sy2 := lt_of_get hy2
  simp (disch := first|omega|(simp only [zS];first|done|omega)) [bB,dk_go,chks_nil,chks_cons,chkA_nil,chkA_cons,chk1_no,chk1_yes,chkV_some,hAt_eq,hOf_some,hOf_none,sameV,sameL,sameCell,blanks,p4y,p42,hI2.p2,hIy.p2,acl,ac3,hy2,ba_self]
  have kS : Kept g (g2'.setIfInBounds g.size (.cells [vi 1,.string t2,.string x.data,vi 0] 0 true [])) [g.size] := (ky.trans k2).of_nil.trans ⟨by simp,fun c hc hn => set_other (fun e => hn (by simp [e]))⟩
  have hI3 := hI.past kS (by simp)
  have hy3 : hget (g2'.setIfInBounds g.size (.cells [vi 1,.string t2,.string x.data,vi 0] 0 true [])) g.size = some (.cells [vi 1,.string t2,.string x.data,vi 0] 0 true []) := by rw [set_self rfl sy2]
  generalize g2'.setIfInBounds g.size (.cells [vi 1,.string t2,.string x.data,vi 0] 0 true []) = g3 at *
  have next : ∀ (g' : H) (cv' : Value) (c' : Cg),II h g' ac x.b b1 cv' (cs ++ [c']) → Ans (evC (F + 3) (cxOf c (cfX XD) [.cellN 4 5]) (.region r75_16 [2,3,4,5,6,7]) (keepK [2,3,4,5,6,7] again) (putK 0 (evC (F + 3) (cxOf c (cfX XD) [.cellN 4 5]) (.seq (.region r75_18 [4]) .ret) (endK (cfX XD) [.cellN 4 5]) noK (endK (cfX XD) [.cellN 4 5])) noK) (endK (cfX XD) [.cellN 4 5]) [(2,.pointer (some ⟨h.size,0,none⟩)),(3,.pointer (some ⟨h.size + 1,0,none⟩)),(4,.pointer (some ⟨h.size + 2,0,none⟩)),(5,.pointer (some ⟨h.size + 3,0,none⟩)),(6,.pointer (some ⟨h.size + 4,0,none⟩)),(7,vi i)] g' []) (ItV x.b h) := by
   intro g' cv' c' hI'
   simp (disch := first|omega|(simp only [zS];first|done|omega)) [bB,r75_16,wi]
   exact hag (x.names.length - (i + 1)) _ _ (by omega) ⟨i + 1,_,_,hlt,rfl,hI',by simp [hcl],rfl⟩
  by_cases hneg : n < 0
  ·have p43 := hI3.p4
   simp only [wZ] at p43
   simp (disch := first|omega|(simp only [zS];first|done|omega)) [bB,r75_11,hneg,d75_12,p43,hI3.p1,xzl,xz0',aUn,blanks]
   refine Ans.nextCD (e1 _ _) ?_
   rintro u g4 ⟨k4,t4,rfl,ht4⟩
   have p44 := kget p43 k4
   have hy4 := kget hy3 k4
   simp (disch := first|omega|(simp only [zS];first|done|omega)) [bB,blanks]
   refine Ans.nextCD (e2 _ _ _ (by simp [show slen (ByteArray.mk #[]) = 0 from rfl]) (by omega)) ?_
   rintro u g4' ⟨rfl,t5,rfl,ht5⟩
   have sy4 := lt_of_get hy4
   simp (disch := first|omega|(simp only [zS];first|done|omega)) [bB,dk_go,chks_nil,chks_cons,chkA_nil,chkA_cons,chk1_no,chk1_yes,chkV_some,hAt_eq,hOf_some,hOf_none,sameV,sameL,sameCell,blanks,p43,p44,hy4,ba_self]
   have kS4 : Kept g (g4'.setIfInBounds g.size (.cells [vi 3,.string t5,.string ⟨#[]⟩,vi 0] 0 true [])) [g.size] := (kS.trans k4.of_nil).trans ⟨by simp,fun c hc hn => set_other (fun e => hn (by simp [e]))⟩
   have hI5 := hI.past kS4 (by simp)
   have hy5 : hget (g4'.setIfInBounds g.size (.cells [vi 3,.string t5,.string ⟨#[]⟩,vi 0] 0 true [])) g.size = some (.cells [vi 3,.string t5,.string ⟨#[]⟩,vi 0] 0 true []) := by rw [set_self rfl sy4]
   generalize g4'.setIfInBounds g.size (.cells [vi 3,.string t5,.string ⟨#[]⟩,vi 0] 0 true []) = g5 at *
   have := item_tail (G := F + 3) (cx := cxOf c (cfX XD) [.cellN 4 5]) (kr := endK (cfX XD) [.cellN 4 5]) (ke := putK 1 (evC (F + 3) (cxOf c (cfX XD) [.cellN 4 5]) (.region r75_16 [2,3,4,5,6,7]) (keepK [2,3,4,5,6,7] again) (putK 0 (evC (F + 3) (cxOf c (cfX XD) [.cellN 4 5]) (.seq (.region r75_18 [4]) .ret) (endK (cfX XD) [.cellN 4 5]) noK (endK (cfX XD) [.cellN 4 5])) noK) (endK (cfX XD) [.cellN 4 5])) (putK 0 (evC (F + 3) (cxOf c (cfX XD) [.cellN 4 5]) (.seq (.region r75_18 [4]) .ret) (endK (cfX XD) [.cellN 4 5]) noK (endK (cfX XD) [.cellN 4 5])) noK)) (e := [(2,.pointer (some ⟨h.size,0,none⟩)),(3,.pointer (some ⟨h.size + 1,0,none⟩)),(4,.pointer (some ⟨h.size + 2,0,none⟩)),(5,.pointer (some ⟨h.size + 3,0,none⟩)),(6,.pointer (some ⟨h.size + 4,0,none⟩)),(7,vi i),(9,.pointer (some ⟨g.size,0,none⟩))]) (i := i)
    hI5 hy5 (by omega) (by omega) rfl rfl rfl rfl rfl rfl rfl (fun g' cv' hI' => next g' cv' _ hI')
   simpa using this
  ·simp (disch := first|omega|(simp only [zS];first|done|omega)) [bB,r75_11,hneg]
   have := item_tail (G := F + 3) (cx := cxOf c (cfX XD) [.cellN 4 5]) (kr := endK (cfX XD) [.cellN 4 5]) (ke := putK 1 (evC (F + 3) (cxOf c (cfX XD) [.cellN 4 5]) (.region r75_16 [2,3,4,5,6,7]) (keepK [2,3,4,5,6,7] again) (putK 0 (evC (F + 3) (cxOf c (cfX XD) [.cellN 4 5]) (.seq (.region r75_18 [4]) .ret) (endK (cfX XD) [.cellN 4 5]) noK (endK (cfX XD) [.cellN 4 5])) noK) (endK (cfX XD) [.cellN 4 5])) (putK 0 (evC (F + 3) (cxOf c (cfX XD) [.cellN 4 5]) (.seq (.region r75_18 [4]) .ret) (endK (cfX XD) [.cellN 4 5]) noK (endK (cfX XD) [.cellN 4 5])) noK)) (e := [(2,.pointer (some ⟨h.size,0,none⟩)),(3,.pointer (some ⟨h.size + 1,0,none⟩)),(4,.pointer (some ⟨h.size + 2,0,none⟩)),(5,.pointer (some ⟨h.size + 3,0,none⟩)),(6,.pointer (some ⟨h.size + 4,0,none⟩)),(7,vi i),(8,vi n),(9,.pointer (some ⟨g.size,0,none⟩)),(56,.bool false)]) (i := i)
    hI3 hy3 (by omega) (by omega) rfl rfl rfl rfl rfl rfl rfl (fun g' cv' hI' => next g' cv' _ hI')
   simpa using this
 ·have hie : i = x.names.length := by omega
  subst hie
  have s3 := lt_of_get hI.p3
  obtain ⟨a5,hv'⟩ := bld_is hI.l
  have p5 := hI.p5
  rw [hv'] at p5
  simp (disch := first|omega|(simp only [zS];first|done|omega)) [bB,l75_17,r75_8,hI.p2,acl,ac4,lN,r75_18,p5,hI.p3]
  rw [← hv']
  have s5 := lt_of_get hI.p5
  have kS : Kept g (g.setIfInBounds (h.size + 2) (.cells [vi x.b,vi b1,.bool false,cv,.slice none 0 0] 0 true [])) [h.size + 2] := ⟨by simp,fun c hc hn => set_other (fun e => hn (by simp [e]))⟩
  exact Ans.of ⟨kept_set hI.k (by omega),b1,false,cv,_,cs,[],rfl,(hI.l.kept (R := CgN (h.size + 5)) kS (by simp) fun _ _ _ q => q.kc kS.c (by simp)).sl.imp (R' := CgN h.size) (fun b _ q => by omega) (fun cs x _ q => q.lo (by omega)) (fun _ _ _ q => q),.inl ⟨.inl rfl,rfl⟩,by omega,fun c hc => by have := hI.t c hc;omega,by simp,by simp⟩
end Go.Proofs.YtalamcchkkdelaaGreatDoor
end
section
set_option maxRecDepth 100000
namespace Go.Proofs.YtalamcchkkdelaaGreatDoor
open Go.Ev
variable {F : Nat} {h : H}
def RpV (b : Int) (h : H) (v : Value) (h' : H) : Prop := Kept h h' [] ∧ ∃ (code : Int) (rv : Value) (rs : List Rz),v = .agg ⟨[vi b,vi code,vi 0,rv]⟩ ∧ SlR (fun b => h.size ≤ b) 7 (RzN h.size) h' rv rs ∧ rs.length ≤ 1 ∧ ∀ r ∈ rs,r.kids.length ≤ 2097152
theorem four_rows {a b c d : List Value} : ∃ g,g = Ev.newRow (Ev.newRow (Ev.newRow (Ev.newRow h a 0 []) b 0 []) c 0 []) d 0 [] ∧ Kept h g [] ∧ g.size = h.size + 4 ∧ hget g h.size = some (.cells a 0 true []) ∧ hget g (h.size + 1) = some (.cells b 0 true []) ∧ hget g (h.size + 2) = some (.cells c 0 true []) ∧ hget g (h.size + 3) = some (.cells d 0 true []) := by
 refine ⟨_,rfl,(((rowKept _ _ _ _).trans (rowKept _ _ _ _)).trans (rowKept _ _ _ _)).trans (rowKept _ _ _ _),by simp,?_,?_,?_,?_⟩
 all_goals simp (disch := first|omega|(simp only [zS];first|done|omega))
theorem xz12 : (xZ.drop 12).take 1 = [.slice none 0 0] := rfl
def rzZ : Rz := ⟨⟨#[]⟩,⟨#[]⟩,0,0,0,0,[]⟩
set_option maxHeartbeats 4000000 in
theorem reply_spec {v vo vr vc vp vn : Value} {x : Ac} (hF : 200 ≤ F) : Ans (cf (F + 1) 72 [.agg ⟨xZ⟩,.agg ⟨acC x v vo vr vc vp vn⟩] h) (RpV x.b h) := by
 rw [cf_step (a := a72) rfl rfl (by simp [a72])]
 obtain ⟨ac,hac⟩ : ∃ l,l = acC x v vo vr vc vp vn := ⟨_,rfl⟩
 have acl : ac.length = 31 := by rw [hac];rfl
 have ac1 : ac.tail.take 1 = [vi x.a] := by rw [hac];rfl
 have ac2 : (ac.drop 2).take 1 = [vi x.b] := by rw [hac];rfl
 rw [← hac]
 clear hac
 simp (disch := first|omega|(simp only [zS];first|done|omega)) [bB,a72,r72_0,r72_1,acl,ac2]
 obtain ⟨g,hg,kg,zg,p1,p2,p3,p4⟩ := four_rows (h := h) (a := xZ) (b := ac) (c := [vi 0,vi 0,vi 0,.slice none 0 0]) (d := [vi x.b,vi 0,vi 0,.slice none 0 0])
 show Ans (evR _ r72_2 _ (Ev.newRow (Ev.newRow (Ev.newRow (Ev.newRow h xZ 0 []) ac 0 []) [vi 0,vi 0,vi 0,.slice none 0 0] 0 []) [vi x.b,vi 0,vi 0,.slice none 0 0] 0 []) _ _ _) _
 rw [← hg]
 clear hg
 simp only [Nat.add_assoc,Nat.reduceAdd]
 have s3 := lt_of_get p3
 have s4 := lt_of_get p4
 by_cases h1 : x.a > 0
 ·simp (disch := first|omega|(simp only [zS];first|done|omega)) [bB,r72_2,p2,acl,ac1,h1,r72_3,p4,r72_4,p3]
  exact Ans.of ⟨kept_set (kept_set kg (by omega)) (by omega),_,_,[],rfl,.inl ⟨.inl rfl,rfl⟩,by simp,by simp⟩
 have key : Ans (evC F (cxOf (cf F) (cfX XD) [.cellN 4 4]) (.seq (.seq (.region r72_20 [4,5,94]) (.cond (.tmp 94) (.region r72_21 [4,5]) .skip)) (.seq (.region r72_22 [4]) .ret)) (endK (cfX XD) [.cellN 4 4]) noK (endK (cfX XD) [.cellN 4 4]) [(3,.pointer (some ⟨h.size + 1,0,none⟩)),(4,.pointer (some ⟨h.size + 2,0,none⟩)),(5,.pointer (some ⟨h.size + 3,0,none⟩)),(87,.bool false)] g []) (RpV x.b h) := by
  by_cases h2 : x.a < -2
  ·have k5 := rowKept g (rzC rzZ (.slice none 0 0)) 7 []
   have q5 : hget (Ev.newRow g (rzC rzZ (.slice none 0 0)) 7 []) g.size = some (.cells (rzC rzZ (.slice none 0 0)) 7 true []) := by simp
   have z5 : (Ev.newRow g (rzC rzZ (.slice none 0 0)) 7 []).size = g.size + 1 := by simp
   obtain ⟨v',g',c1,c2,c3,c4⟩ := bld_put1 (h := g) (w := 7) (ok := fun b => h.size + 4 ≤ b) (bytes := 88) (R := fun _ cs r => cs = rzC r (.slice none 0 0)) (Bld.nil _ _ _ _) (rzC rzZ (.slice none 0 0)) (x := rzZ) rfl (by simp) (by omega) (fun _ _ _ _ _ _ q => q) (fun _ _ => rfl)
   have p44 : hget g' (h.size + 3) = _ := (c4 _ s4 (by omega)).trans p4
   have p34 : hget g' (h.size + 2) = _ := (c4 _ s3 (by omega)).trans p3
   have s44 := lt_of_get p44
   have s34 := lt_of_get p34
   obtain ⟨a5,hv'⟩ := bld_is c2
   simp only [rzC,rzZ] at c1
   simp (disch := first|omega|(simp only [zS];first|done|omega)) [bB,r72_20,p2,acl,ac1,h2,r72_21,p4,srcOf,isText,c1]
   rw [hv']
   simp (disch := first|omega|(simp only [zS];first|done|omega)) [bB,p44,r72_22,p34]
   rw [← show v' = .slice a5 1 1 from hv']
   have kh : Kept h g' [] := ⟨by omega,fun c hc hn => (c4 c (by omega) (by omega)).trans (kg.2 c hc hn)⟩
   have kS : KeptC g' ((g'.setIfInBounds (h.size + 3) (.cells [vi x.b,vi 0,vi 0,v'] 0 true [])).setIfInBounds (h.size + 2) (.cells [vi x.b,vi 0,vi 0,v'] 0 true [])) [h.size + 3,h.size + 2] :=
    ⟨by simp,fun c hc hn => cel_congr (by
     rw [List.mem_cons,List.mem_singleton,not_or] at hn
     rw [set_other (by omega),set_other (by omega)])⟩
   refine Ans.of ⟨kept_set (kept_set kh (by omega)) (by omega),_,v',_,rfl,(c2.sl.kc kS (fun b hb => by
     rw [List.mem_cons,List.mem_singleton] at hb
     rcases hb with rfl | rfl <;> omega) fun _ _ _ q => q).imp (R' := RzN h.size) (fun b _ q => by omega) (fun cs r hr q => ?_) (fun _ _ _ e => e),by simp,fun r hr => ?_⟩
   ·simp at hr
    subst hr
    exact ⟨_,q,.inl ⟨.inl rfl,rfl⟩⟩
   ·simp at hr
    subst hr
    show ([] : List ByteArray).length ≤ _
    simp
  ·simp (disch := first|omega|(simp only [zS];first|done|omega)) [bB,r72_20,p2,acl,ac1,h2,r72_22,p4,p3]
   exact Ans.of ⟨kept_set kg (by omega),_,_,[],rfl,.inl ⟨.inl rfl,rfl⟩,by simp,by simp⟩
 simp (disch := first|omega|(simp only [zS];first|done|omega)) [bB,r72_2,p2,acl,ac1,h1,r72_5]
 obtain ⟨F',rfl⟩ : ∃ F',F = F' + 1 := ⟨F - 1,by omega⟩
 rw [loopK_succ]
 by_cases h2 : x.a = -1
 ·simp (disch := first|omega|(simp only [zS];first|done|omega)) [bB,l72_17,r72_6,p1,xzl,xz12,r72_18,p2,acl,ac1,h2,p4]
  simpa using key
 ·simp (disch := first|omega|(simp only [zS];first|done|omega)) [bB,l72_17,r72_6,p1,xzl,xz12,r72_18,p2,acl,ac1,h2]
  simpa using key
end Go.Proofs.YtalamcchkkdelaaGreatDoor
end
section
set_option maxRecDepth 100000
namespace Go.Proofs.YtalamcchkkdelaaGreatDoor
open Go.Ev
variable {F : Nat} {h : H}
def FitV (h : H) (v : Value) (h' : H) : Prop := Kept h h' [] ∧ ∃ (t : Td) (vo vr vc vp vn : Value),v = .agg ⟨tdC t vo vr vc vp vn⟩ ∧ TdR h' t vo vr vc vp vn ∧ TdB t
def tdZ : Td := ⟨0,0,0,0,0,0,0,[],0,0,0,[],0,⟨#[]⟩,0,0,0,0,false,[],[],0,0,⟨#[]⟩,0,[]⟩
abbrev nl : Value := .slice none 0 0
theorem slr_nl {α : Type} {w : Nat} {R : H → List Value → α → Prop} {h : H} : SlR T w R h nl [] := .inl ⟨.inl rfl,rfl⟩
theorem tdZ_b : TdB tdZ := ⟨by simp [tdZ],by simp [tdZ],by simp [tdZ],by simp [tdZ],by simp [tdZ],by simp [tdZ],by simp [tdZ],by simp [tdZ],by simp [tdZ]⟩
theorem xz14 : (xZ.drop 14).take 1 = [vi 0] := rfl
theorem xz23 : (xZ.drop 23).take 1 = [.slice none 0 0] := rfl
theorem sl_is {α : Type} {ok : Nat → Prop} {w : Nat} {R : H → List Value → α → Prop} {h : H} {v : Value} {xs : List α} (s : SlR ok w R h v xs) : ∃ a n c,v = .slice a n c := by
 rcases s with ⟨rfl | rfl,rfl⟩ | ⟨b,o,c,cs,rfl,_⟩ <;> exact ⟨_,_,_,rfl⟩
theorem ret_c {g g' : H} {b : Nat} {X : Blk} (k : Kept g g' []) : KeptC g' (g'.setIfInBounds b X) [b] := ⟨by simp,fun c hc hn => cel_congr (set_other (fun e => hn (by simp [e])))⟩
set_option maxHeartbeats 4000000 in
theorem fit_spec {v vo vr vc vp vn : Value} {x : Ac} (hN : SlR T 1 IntR h v x.names) (hn : x.names.length ≤ 2097152) (hR : TdR h x.td vo vr vc vp vn) (hB : TdB x.td) (hF : Big F) : Ans (cf (F + 5) 35 [.agg ⟨xZ⟩,.agg ⟨acC x v vo vr vc vp vn⟩] h) (FitV h) := by
 rw [cf_step (a := a35) rfl rfl (by simp [a35])]
 obtain ⟨ha1,ha2,ha3,rfl⟩ := sl_is hN
 obtain ⟨hb1,hb2,hb3,rfl⟩ := sl_is hR.ops
 obtain ⟨hc1,hc2,hc3,rfl⟩ := sl_is hR.results
 obtain ⟨hd1,hd2,hd3,rfl⟩ := sl_is hR.changes
 obtain ⟨he1,he2,he3,rfl⟩ := sl_is hR.parts
 obtain ⟨hf1,hf2,hf3,rfl⟩ := sl_is hR.nodes
 have e0 := fun (g : H) (k : Kept h g []) => picture_spec (F := F + 1) (h := g) (vo := .slice hb1 hb2 hb3) (vr := .slice hc1 hc2 hc3) (vc := .slice hd1 hd2 hd3) (vp := .slice he1 he2 he3) (vn := .slice hf1 hf2 hf3) (slr_kept hN k fun _ _ _ q => q) hn (hF.w 1)
 have e1 := fun (g : H) (k : Kept h g []) => item_spec (F := F) (h := g) (vo := .slice hb1 hb2 hb3) (vr := .slice hc1 hc2 hc3) (vc := .slice hd1 hd2 hd3) (vp := .slice he1 he2 he3) (vn := .slice hf1 hf2 hf3) (slr_kept hN k fun _ _ _ q => q) hn hF
 unfold Big at hF
 have e2 := fun (g : H) => reply_spec (F := F + 3) (h := g) (x := x) (v := .slice ha1 ha2 ha3) (vo := .slice hb1 hb2 hb3) (vr := .slice hc1 hc2 hc3) (vc := .slice hd1 hd2 hd3) (vp := .slice he1 he2 he3) (vn := .slice hf1 hf2 hf3) (by omega)
 have e3 := fun (g : H) => reply_spec (F := F + 3) (h := g) (x := ⟨0,0,x.b,x.data,x.names,tdZ⟩) (v := .slice ha1 ha2 ha3) (vo := nl) (vr := nl) (vc := nl) (vp := nl) (vn := nl) (by omega)
 generalize cf (F + 4) = c at *
 obtain ⟨ac,hac⟩ : ∃ l,l = acC x (.slice ha1 ha2 ha3) (.slice hb1 hb2 hb3) (.slice hc1 hc2 hc3) (.slice hd1 hd2 hd3) (.slice he1 he2 he3) (.slice hf1 hf2 hf3) := ⟨_,rfl⟩
 have acl : ac.length = 31 := by rw [hac];rfl
 have ac0 : ac.take 1 = [vi x.kind] := by rw [hac];rfl
 have ac1 : ac.tail.take 1 = [vi x.a] := by rw [hac];rfl
 have ac2 : (ac.drop 2).take 1 = [vi x.b] := by rw [hac];rfl
 have ac3 : (ac.drop 3).take 1 = [.string x.data] := by rw [hac];rfl
 have ac4 : (ac.drop 4).take 1 = [.slice ha1 ha2 ha3] := by rw [hac];rfl
 have ac5 : (ac.drop 5).take 26 = tdC x.td (.slice hb1 hb2 hb3) (.slice hc1 hc2 hc3) (.slice hd1 hd2 hd3) (.slice he1 he2 he3) (.slice hf1 hf2 hf3) := by rw [hac];rfl
 have acA : ac.take 31 = ac := List.take_of_length_le (by omega)
 rw [← hac] at e0 e1 e2 ⊢
 clear hac
 have xz26 : xZ.take 26 = xZ := rfl
 simp (disch := first|omega|(simp only [zS];first|done|omega)) [bB,a35,r35_0,r35_1,xzl,xz15]
 obtain ⟨g,hg,kg,zg,p1,p2,p3,p4⟩ := four_rows (h := h) (a := xZ) (b := ac) (c := tdC tdZ nl nl nl nl nl) (d := wZ)
 show Ans (evR _ r35_2 _ (Ev.newRow (Ev.newRow (Ev.newRow (Ev.newRow h xZ 0 []) ac 0 []) (tdC tdZ nl nl nl nl nl) 0 []) wZ 0 []) _ _ _) _
 rw [← hg]
 clear hg
 simp only [Nat.add_assoc,Nat.reduceAdd]
 have s3 := lt_of_get p3
 have p3' := p3
 simp only [tdC,tdZ] at p3'
 have p4' := p4
 simp only [wZ] at p4'
 by_cases h4 : x.kind = 4
 ·simp (disch := first|omega|(simp only [zS];first|done|omega)) [bB,r35_2,p2,acl,ac0,r35_3,h4,r35_4,ac1,p1,xzl,xz12,p3']
  exact Ans.of ⟨kept_set kg (by omega),{ tdZ with kind := 1,a4 := x.a },nl,nl,nl,nl,nl,rfl,⟨slr_nl,slr_nl,slr_nl,slr_nl,slr_nl⟩,⟨by simp [tdZ],by simp [tdZ],by simp [tdZ],by simp [tdZ],by simp [tdZ],by simp [tdZ],by simp [tdZ],by simp [tdZ],by simp [tdZ]⟩⟩
 have rep : ∀ (g2 : H) (req code bb : Int) (rv : Value) (rs : List Rz),Kept g g2 [] → SlR (fun b => g.size ≤ b) 7 (RzN g.size) g2 rv rs → rs.length ≤ 1 → (∀ r ∈ rs,r.kids.length ≤ 2097152) →
   FitV h (.agg ⟨tdC { tdZ with kind := 2,a4 := req,r0 := bb,r1 := code,results := rs } nl rv nl nl nl⟩) (g2.setIfInBounds (h.size + 2) (.cells (tdC { tdZ with kind := 2,a4 := req,r0 := bb,r1 := code,results := rs } nl rv nl nl nl) 0 true [])) := by
  intro g2 req code bb rv rs k2 hS hl hk
  refine ⟨kept_set (kg.trans k2) (by omega),_,_,_,_,_,_,rfl,⟨slr_nl,?_,slr_nl,slr_nl,slr_nl⟩,⟨by simp [tdZ],by show rs.length ≤ _;omega,hk,by simp [tdZ],by simp [tdZ],by simp [tdZ],by simp [tdZ],by simp [tdZ]⟩⟩
  have kk := ret_c (b := h.size + 2) (X := .cells (tdC { tdZ with kind := 2,a4 := req,r0 := bb,r1 := code,results := rs } nl rv nl nl nl) 0 true []) k2
  exact (hS.kc kk (by simp;omega) fun cs y _ q => q.kc kk (by simp;omega)).imp (fun _ _ _ => trivial) (fun _ _ _ q => q.r) fun _ _ _ e => e
 by_cases h5 : x.kind = 5
 ·by_cases hm : x.a = -4 ∨ x.a = -5
  ·have go : ∀ (kn : K) (ke : Nat → K),Ans (evC (F + 4) (cxOf c (cfX XD) [.cellN 4 26]) (.seq (.regionD d35_7 [(1,[17]),(4,[17])] [4]) .ret) kn ke (endK (cfX XD) [.cellN 4 26]) [(2,.pointer (some ⟨h.size,0,none⟩)),(3,.pointer (some ⟨h.size + 1,0,none⟩)),(4,.pointer (some ⟨h.size + 2,0,none⟩)),(27,.bool true)] g []) (FitV h) := by
    intro kn ke
    simp (disch := first|omega|(simp only [zS];first|done|omega)) [bB,d35_7,p1,p2,xzl,xz14,xz26,acl,ac1,ac2,ac3,ac4,blanks]
    refine Ans.nextCD (e3 g) ?_
    rintro u g2 ⟨k2,code,rv,rs,rfl,hS,hl,hk⟩
    have p12 := kget p1 k2
    have p22 := kget p2 k2
    have p32 := kget p3' k2
    have s32 := lt_of_get p32
    have hrep := rep g2 (IntKind.i64.wrap (IntKind.i64.wrap (-9) - IntKind.i64.wrap (2 * x.a))) code x.b rv rs k2 hS hl hk
    obtain ⟨q1,q2,q3,rfl⟩ := sl_is hS
    simp (disch := first|omega|(simp only [zS];first|done|omega)) [bB,dk_go,chks_nil,chks_cons,chkA_nil,chkA_cons,chk1_no,chk1_yes,chkV_some,hAt_eq,hOf_some,hOf_none,sameV,sameL,sameCell,blanks,p1,p2,p12,p22,xzl,xz14,xz26,acl,ac1,ac2,ac3,ac4,p32]
    exact Ans.of hrep
   rcases hm with hm | hm
   ·simp (disch := first|omega|(simp only [zS];first|done|omega)) [bB,r35_2,p2,acl,ac0,r35_3,h4,r35_5,h5,r35_6,ac1,hm]
    simpa using go _ _
   ·simp (disch := first|omega|(simp only [zS];first|done|omega)) [bB,r35_2,p2,acl,ac0,r35_3,h4,r35_5,h5,r35_6,ac1,hm]
    simpa using go _ _
  ·have hm1 : ¬ x.a = -4 := fun e => hm (.inl e)
   have hm2 : ¬ x.a = -5 := fun e => hm (.inr e)
   simp (disch := first|omega|(simp only [zS];first|done|omega)) [bB,r35_2,p2,acl,ac0,r35_3,h4,r35_5,h5,r35_6,ac1,hm1,hm2,d35_8,p1,xzl,xz14,xz26,acA,blanks]
   refine Ans.nextCD (e2 g) ?_
   rintro u g2 ⟨k2,code,rv,rs,rfl,hS,hl,hk⟩
   have p12 := kget p1 k2
   have p22 := kget p2 k2
   have p32 := kget p3' k2
   have s32 := lt_of_get p32
   have hrep := rep g2 0 code x.b rv rs k2 hS hl hk
   obtain ⟨q1,q2,q3,rfl⟩ := sl_is hS
   simp (disch := first|omega|(simp only [zS];first|done|omega)) [bB,dk_go,chks_nil,chks_cons,chkA_nil,chkA_cons,chk1_no,chk1_yes,chkV_some,hAt_eq,hOf_some,hOf_none,sameV,sameL,sameCell,blanks,p1,p2,p12,p22,xzl,xz14,xz26,acl,p32]
   exact Ans.of hrep
 by_cases h6 : x.kind = 6
 ·simp (disch := first|omega|(simp only [zS];first|done|omega)) [bB,r35_2,p2,acl,ac0,r35_3,h4,r35_5,h5,r35_9,h6,r35_10,p1,xzl,xz23,r35_12,ac1,p4',p3']
  exact Ans.of ⟨kept_set kg (by omega),{ tdZ with kind := 3,w0 := x.a },nl,nl,nl,nl,nl,rfl,⟨slr_nl,slr_nl,slr_nl,slr_nl,slr_nl⟩,⟨by simp [tdZ],by simp [tdZ],by simp [tdZ],by simp [tdZ],by simp [tdZ],by simp [tdZ],by simp [tdZ],by simp [tdZ],by simp [tdZ]⟩⟩
 by_cases h7 : x.kind = 7
 ·have kt := rowKept g (tdC tdZ nl nl nl nl nl) 0 []
  have ht : hget (Ev.newRow g (tdC tdZ nl nl nl nl nl) 0 []) g.size = some (.cells (tdC tdZ nl nl nl nl nl) 0 true []) := by simp
  have zt : (Ev.newRow g (tdC tdZ nl nl nl nl nl) 0 []).size = g.size + 1 := by simp
  have p1t := kget p1 kt
  have p2t := kget p2 kt
  have p3t := kget p3' kt
  have p4t := kget p4' kt
  simp only [tdC,tdZ] at ht p1t p2t p3t p4t zt kt
  simp (disch := first|omega|(simp only [zS];first|done|omega)) [bB,r35_2,p2,acl,ac0,r35_3,h4,r35_5,h5,r35_9,h6,r35_13,h7,d35_14,p4t,p1t,p2t,xzl,xz26,acA,blanks]
  generalize Ev.newRow g [vi 0,vi 0,vi 0,vi 0,vi 0,vi 0,vi 0,nl,vi 0,vi 0,vi 0,nl,vi 0,.string ⟨#[]⟩,vi 0,vi 0,vi 0,vi 0,.bool false,nl,nl,vi 0,vi 0,.string ⟨#[]⟩,vi 0,nl] 0 [] = gt at *
  refine Ans.nextCD (e0 gt (kg.trans kt)) ?_
  rintro u g2 ⟨k2,nv,ns,rfl,hS,hl,hpl⟩
  have p12 := kget p1t k2
  have p22 := kget p2t k2
  have p32 := kget p3t k2
  have p42 := kget p4t k2
  have pt2 := kget ht k2
  have s32 := lt_of_get p32
  have st2 := lt_of_get pt2
  obtain ⟨q1,q2,q3,rfl⟩ := sl_is hS
  have fin : ∀ (code : Int) (X1 X2 : Blk) (g3 : H),(∀ c,c ≠ g.size → c ≠ h.size + 2 → hget g3 c = hget g2 c) → g2.size ≤ g3.size → FitV h (.agg ⟨tdC { tdZ with kind := 4,code := code,p1 := x.b,nodes := ns } nl nl nl nl (.slice q1 q2 q3)⟩) g3 := by
   intro code X1 X2 g3 hfr hz
   have kk : KeptC g2 g3 [g.size,h.size + 2] := ⟨hz,fun c hc hn => cel_congr (by
    rw [List.mem_cons,List.mem_singleton,not_or] at hn
    exact hfr c hn.1 hn.2)⟩
   refine ⟨⟨by have := kg.1;have := kt.1;have := k2.1;omega,fun c hc hn => ?_⟩,_,_,_,_,_,_,rfl,⟨slr_nl,slr_nl,slr_nl,slr_nl,sl_T (hS.kc kk (fun b hb => by
     rw [List.mem_cons,List.mem_singleton] at hb
     rcases hb with rfl | rfl <;> omega) fun _ _ _ q => q)⟩,⟨by simp [tdZ],by simp [tdZ],by simp [tdZ],by simp [tdZ],by simp [tdZ],by simp [tdZ],by simp [tdZ],⟨by show ns.length ≤ _;omega,fun n hn' => by have := hpl n hn';omega⟩⟩⟩
   rw [hfr c (by omega) (by omega)]
   exact ((kg.trans kt).trans k2).2 c hc hn
  have hne : ¬ g.size = h.size + 1 := by omega
  have hne2 : ¬ g.size = h.size + 2 := by omega
  simp (disch := first|omega|(simp only [zS];first|done|omega)) [bB,dk_go,chks_nil,chks_cons,chkA_nil,chkA_cons,chk1_no,chk1_yes,chkV_some,hAt_eq,hOf_some,hOf_none,sameV,sameL,sameCell,blanks,p4t,p42,p1t,p12,p2t,p22,xzl,xz26,acl,acA,pt2,ba_self]
  show Ans (evR _ r35_15 _ (g2.setIfInBounds g.size (.cells (tdC { tdZ with kind := 4,p1 := x.b } nl nl nl nl (.slice q1 q2 q3)) 0 true [])) _ _ _) _
  have p23 : hget (g2.setIfInBounds g.size (.cells (tdC { tdZ with kind := 4,p1 := x.b } nl nl nl nl (.slice q1 q2 q3)) 0 true [])) (h.size + 1) = some (.cells ac 0 true []) := by rw [set_other (by omega)];exact p22
  have p33 := (show hget (g2.setIfInBounds g.size (.cells (tdC { tdZ with kind := 4,p1 := x.b } nl nl nl nl (.slice q1 q2 q3)) 0 true [])) (h.size + 2) = hget g2 (h.size + 2) from set_other (by omega)).trans p32
  have pt3 : hget (g2.setIfInBounds g.size (.cells (tdC { tdZ with kind := 4,p1 := x.b } nl nl nl nl (.slice q1 q2 q3)) 0 true [])) g.size = some (.cells (tdC { tdZ with kind := 4,p1 := x.b } nl nl nl nl (.slice q1 q2 q3)) 0 true []) := by rw [set_self rfl st2]
  have fr3 : ∀ c,c ≠ g.size → hget (g2.setIfInBounds g.size (.cells (tdC { tdZ with kind := 4,p1 := x.b } nl nl nl nl (.slice q1 q2 q3)) 0 true [])) c = hget g2 c := fun c hc => set_other (fun e => hc e.symm)
  have z3 : (g2.setIfInBounds g.size (.cells (tdC { tdZ with kind := 4,p1 := x.b } nl nl nl nl (.slice q1 q2 q3)) 0 true [])).size = g2.size := by simp
  generalize g2.setIfInBounds g.size (.cells (tdC { tdZ with kind := 4,p1 := x.b } nl nl nl nl (.slice q1 q2 q3)) 0 true []) = g3 at *
  simp only [tdC,tdZ] at pt3
  have s33 := lt_of_get p33
  have s3t := lt_of_get pt3
  by_cases ha9 : x.a > 9
  ·simp (disch := first|omega|(simp only [zS];first|done|omega)) [bB,r35_15,p23,acl,ac1,ha9,r35_16,pt3,r35_17,p33,hne2]
   exact Ans.of (fin x.a (.cells [] 0 true []) (.cells [] 0 true []) _ (fun c h1 h2 => by rw [set_other (fun e => h2 e.symm),set_other (fun e => h1 e.symm)];exact fr3 c h1) (by simp [z3]))
  ·simp (disch := first|omega|(simp only [zS];first|done|omega)) [bB,r35_15,p23,acl,ac1,ha9,pt3,r35_17,p33,hne2]
   exact Ans.of (fin 0 (.cells [] 0 true []) (.cells [] 0 true []) _ (fun c h1 h2 => by rw [set_other (fun e => h2 e.symm)];exact fr3 c h1) (by simp [z3]))
 by_cases h8 : x.kind = 8
 ·simp (disch := first|omega|(simp only [zS];first|done|omega)) [bB,r35_2,p2,acl,ac0,r35_3,h4,r35_5,h5,r35_9,h6,r35_13,h7,r35_18,h8,d35_19,p1,xzl,xz26,acA,ac2,blanks]
  refine Ans.nextCD (e1 g kg) ?_
  rintro u g2 ⟨k2,b1,mark,cv,pv,cs,ps,rfl,hC,hP,hb1,hb2,hb3,hb4⟩
  have p12 := kget p1 k2
  have p22 := kget p2 k2
  have p32 := kget p3' k2
  have s32 := lt_of_get p32
  have kk := fun X => ret_c (b := h.size + 2) (X := X) k2
  have hC' := fun X => (hC.kc (kk X) (by simp;omega) fun cs y _ q => q.kc (kk X) (by simp;omega)).imp (R' := CgR) (ok' := T) (fun _ _ _ => trivial) (fun _ _ _ q => q.r) fun _ _ _ e => e
  have hP' := fun X => (hP.kc (kk X) (by simp;omega) fun cs y _ q => q.kc (kk X) (by simp;omega)).imp (R' := PtR) (ok' := T) (fun _ _ _ => trivial) (fun _ _ _ q => q.r) fun _ _ _ e => e
  obtain ⟨q1,q2,q3,rfl⟩ := sl_is hC
  obtain ⟨q4,q5,q6,rfl⟩ := sl_is hP
  simp (disch := first|omega|(simp only [zS];first|done|omega)) [bB,dk_go,chks_nil,chks_cons,chkA_nil,chkA_cons,chk1_no,chk1_yes,chkV_some,hAt_eq,hOf_some,hOf_none,sameV,sameL,sameCell,blanks,p1,p2,p12,p22,xzl,xz26,acl,acA,ac2,p32]
  exact Ans.of ⟨kept_set (kg.trans k2) (by omega),{ tdZ with kind := 5,stamp := x.b,i0 := x.b,i1 := b1,mark := mark,changes := cs,parts := ps },nl,nl,_,_,nl,rfl,⟨slr_nl,slr_nl,hC' _,hP' _,slr_nl⟩,⟨by simp [tdZ],by simp [tdZ],by simp [tdZ],hb1,hb2,hb3,hb4,by simp [tdZ]⟩⟩
 by_cases h9 : x.kind = 9
 ·simp (disch := first|omega|(simp only [zS];first|done|omega)) [bB,r35_2,p2,acl,ac0,r35_3,h4,r35_5,h5,r35_9,h6,r35_13,h7,r35_18,h8,r35_20,h9,r35_21,p3']
  exact Ans.of ⟨kept_set kg (by omega),{ tdZ with kind := 9 },nl,nl,nl,nl,nl,rfl,⟨slr_nl,slr_nl,slr_nl,slr_nl,slr_nl⟩,⟨by simp [tdZ],by simp [tdZ],by simp [tdZ],by simp [tdZ],by simp [tdZ],by simp [tdZ],by simp [tdZ],by simp [tdZ],by simp [tdZ]⟩⟩
 ·simp (disch := first|omega|(simp only [zS];first|done|omega)) [bB,r35_2,p2,acl,ac0,r35_3,h4,r35_5,h5,r35_9,h6,r35_13,h7,r35_18,h8,r35_20,h9,r35_22,ac5,p3',tdC]
  exact Ans.of ⟨kept_set kg (by omega),x.td,_,_,_,_,_,rfl,hR.kept (kept_set kg (by omega)),hB⟩
end Go.Proofs.YtalamcchkkdelaaGreatDoor
end
section
set_option maxRecDepth 100000
namespace Go.Proofs.YtalamcchkkdelaaGreatDoor
open Go.Ev
variable {F : Nat} {h : H}
def Dead (m : Value) (h : H) : Prop := m = .pointer none ∨ ∃ b cs es lv an,m = .pointer (some ⟨b,0,none⟩) ∧ hget h b = some (.cells cs es lv an) ∧ 33 ≤ cs.length ∧ (cs.drop 32).take 1 = [.nilIface]
theorem Dead.kept {m : Value} {h g : H} (d : Dead m h) (k : Kept h g []) : Dead m g := by
 rcases d with d | ⟨b,cs,es,lv,an,e,hg,q⟩
 ·exact .inl d
 ·exact .inr ⟨b,cs,es,lv,an,e,kget hg k,q⟩
def RetV (w : Value) (h : H) (v : Value) (h' : H) : Prop := Kept h h' [] ∧ v = w
theorem lives_spec {m : Value} (d : Dead m h) : Ans (cf (F + 1) 30 [m] h) fun v h' => h' = h ∧ v = .bool false := by
 rw [cf_step (a := a30) rfl rfl (by simp [a30])]
 rcases d with rfl | ⟨b,cs,es,lv,an,rfl,hg,hl,h32⟩
 ·simp (disch := first|omega|(simp only [zS];first|done|omega)) [bB,a30,r30_0,r30_1]
  exact Ans.of ⟨rfl,rfl⟩
 ·simp (disch := first|omega|(simp only [zS];first|done|omega)) [bB,a30,r30_0,r30_1,hg,hl,h32,isNilI]
  exact Ans.of ⟨rfl,rfl⟩
theorem begin_dead {m : Value} (d : Dead m h) : Ans (cf (F + 2) 20 [m] h) (RetV nl h) := by
 rw [cf_step (a := a20) rfl rfl (by simp [a20])]
 have e1 := lives_spec (F := F) d
 generalize cf (F + 1) = c at *
 simp (disch := first|omega|(simp only [zS];first|done|omega)) [bB,a20,r20_0,r20_1]
 refine Ans.nextC e1 ?_
 rintro v h' ⟨rfl,rfl⟩
 simp (disch := first|omega|(simp only [zS];first|done|omega)) [bB,aUn,r20_2]
 exact Ans.of ⟨Kept.refl _ _,rfl⟩
theorem leave_dead {m : Value} (d : Dead m h) : Ans (cf (F + 2) 33 [m] h) (RetV nl h) := by
 rw [cf_step (a := a33) rfl rfl (by simp [a33])]
 have e1 := lives_spec (F := F) d
 generalize cf (F + 1) = c at *
 simp (disch := first|omega|(simp only [zS];first|done|omega)) [bB,a33,r33_0,r33_1]
 refine Ans.nextC e1 ?_
 rintro v h' ⟨rfl,rfl⟩
 simp (disch := first|omega|(simp only [zS];first|done|omega)) [bB,aUn,r33_2]
 exact Ans.of ⟨Kept.refl _ _,rfl⟩
theorem hear_dead {m : Value} {l : List Value} (d : Dead m h) : Ans (cf (F + 2) 21 [m,.agg ⟨l⟩] h) (RetV nl h) := by
 rw [cf_step (a := a21) rfl rfl (by simp [a21])]
 have k1 := rowKept h l 0 []
 have e1 := lives_spec (F := F) (d.kept k1)
 generalize cf (F + 1) = c at *
 simp (disch := first|omega|(simp only [zS];first|done|omega)) [bB,a21,r21_0,r21_1]
 refine Ans.nextC e1 ?_
 rintro v h' ⟨rfl,rfl⟩
 simp (disch := first|omega|(simp only [zS];first|done|omega)) [bB,aUn,r21_2]
 exact Ans.of ⟨k1,rfl⟩
def hdZ : List Value := [vi 0,.string ⟨#[]⟩,vi 0,vi 0,.slice none 0 0]
theorem sight_dead {m : Value} (d : Dead m h) : Ans (cf (F + 2) 11 [m] h) (RetV (.agg ⟨hdZ⟩) h) := by
 rw [cf_step (a := a11) rfl rfl (by simp [a11])]
 have k1 := rowKept h [vi 0,.string ⟨#[]⟩,vi 0,vi 0,.slice none 0 0] 0 []
 have hb : hget (Ev.newRow h [vi 0,.string ⟨#[]⟩,vi 0,vi 0,.slice none 0 0] 0 []) h.size = some (.cells [vi 0,.string ⟨#[]⟩,vi 0,vi 0,.slice none 0 0] 0 true []) := by simp
 have e1 := lives_spec (F := F) (d.kept k1)
 generalize cf (F + 1) = c at *
 simp (disch := first|omega|(simp only [zS];first|done|omega)) [bB,a11,r11_0,r11_1]
 refine Ans.nextC e1 ?_
 rintro v h' ⟨rfl,rfl⟩
 simp (disch := first|omega|(simp only [zS];first|done|omega)) [bB,aUn,r11_2]
 exact Ans.of ⟨rowKept h _ 0 [],rfl⟩
def xT : Value := .tuple ⟨[.agg ⟨xZ⟩,nl]⟩
theorem rbegin_spec : Ans (cf (F + 1) 32 [.agg ⟨xZ⟩] h) (RetV xT h) := by
 rw [cf_step (a := a32) rfl rfl (by simp [a32])]
 simp (disch := first|omega|(simp only [zS];first|done|omega)) [bB,a32,r32_0,xZ,r32_1,r32_2]
 exact Ans.of ⟨(rowKept _ _ _ _).trans (rowKept _ _ _ _),rfl⟩
theorem rleave_spec : Ans (cf (F + 1) 34 [.agg ⟨xZ⟩] h) (RetV xT h) := by
 rw [cf_step (a := a34) rfl rfl (by simp [a34])]
 simp (disch := first|omega|(simp only [zS];first|done|omega)) [bB,a34,r34_0,xZ,r34_1,r34_2]
 exact Ans.of ⟨(rowKept _ _ _ _).trans (rowKept _ _ _ _),rfl⟩
theorem rsight_spec : Ans (cf (F + 1) 12 [.agg ⟨xZ⟩] h) (RetV (.agg ⟨hdZ⟩) h) := by
 rw [cf_step (a := a12) rfl rfl (by simp [a12])]
 simp (disch := first|omega|(simp only [zS];first|done|omega)) [bB,a12,r12_0,xZ,r12_1]
 exact Ans.of ⟨(rowKept _ _ _ _).trans (rowKept _ _ _ _),rfl⟩
set_option maxHeartbeats 2000000 in
theorem rhear_spec {vo vr vc vp vn : Value} {t : Td} (hF : 1 ≤ F) : Ans (cf (F + 1) 39 [.agg ⟨xZ⟩,.agg ⟨tdC t vo vr vc vp vn⟩] h) (RetV xT h) := by
 rw [cf_step (a := a39) rfl rfl (by simp [a39])]
 obtain ⟨tl,htl⟩ : ∃ l,l = tdC t vo vr vc vp vn := ⟨_,rfl⟩
 have tll : tl.length = 26 := by rw [htl];rfl
 have tl2 : (tl.drop 2).take 1 = [vi t.kind] := by rw [htl];rfl
 rw [← htl]
 clear htl
 obtain ⟨F',rfl⟩ : ∃ F',F = F' + 1 := ⟨F - 1,by omega⟩
 have fin : ∀ g,Kept h g [] → Ans (some (xT,g)) (RetV xT h) := fun g k => Ans.of ⟨k,rfl⟩
 simp (disch := first|omega|(simp only [zS];first|done|omega)) [bB,a39,r39_0,xZ]
 obtain ⟨g,hg,kg,p1,p2,p3⟩ : ∃ g,g = Ev.newRow (Ev.newRow (Ev.newRow h xZ 0 []) tl 0 []) xZ 0 [] ∧ Kept h g [] ∧ hget g h.size = some (.cells xZ 0 true []) ∧ hget g (h.size + 1) = some (.cells tl 0 true []) ∧ hget g (h.size + 2) = some (.cells xZ 0 true []) :=
  ⟨_,rfl,((rowKept _ _ _ _).trans (rowKept _ _ _ _)).trans (rowKept _ _ _ _),by simp (disch := first|omega|(simp only [zS];first|done|omega)),by simp (disch := first|omega|(simp only [zS];first|done|omega)),by simp (disch := first|omega|(simp only [zS];first|done|omega))⟩
 show Ans (evR _ r39_1 _ (Ev.newRow (Ev.newRow (Ev.newRow h xZ 0 []) tl 0 []) xZ 0 []) _ _ _) _
 rw [← hg]
 clear hg
 simp only [xZ] at p1 p3
 have s1 := lt_of_get p1
 have s3 := lt_of_get p3
 by_cases h3 : t.kind = 3
 ·simp (disch := first|omega|(simp only [zS];first|done|omega)) [bB,r39_1,p2,tll,tl2,h3,r39_2,loopK_succ,l39_8,r39_3,p1,r39_9,r39_11,r39_12,p3]
  exact Ans.of ⟨kept_set kg (by omega),rfl⟩
 by_cases h8 : t.kind = 8
 ·simp (disch := first|omega|(simp only [zS];first|done|omega)) [bB,r39_1,p2,tll,tl2,h3,r39_9,h8,r39_10,p1,r39_11,r39_12,p3]
  exact Ans.of ⟨kept_set (kept_set kg (by omega)) (by omega),rfl⟩
 by_cases h9 : t.kind = 9
 ·simp (disch := first|omega|(simp only [zS];first|done|omega)) [bB,r39_1,p2,tll,tl2,h3,r39_9,h8,h9,r39_10,p1,r39_11,r39_12,p3]
  exact Ans.of ⟨kept_set (kept_set kg (by omega)) (by omega),rfl⟩
 ·simp (disch := first|omega|(simp only [zS];first|done|omega)) [bB,r39_1,p2,tll,tl2,h3,r39_9,h8,h9,r39_11,p1,r39_12,p3]
  exact Ans.of ⟨kept_set kg (by omega),rfl⟩
theorem sameWishes_nl (hF : 1 ≤ F) : Ans (cf (F + 1) 41 [nl,nl] h) (IsT h) := by
 rw [cf_step (a := a41) rfl rfl (by simp [a41])]
 obtain ⟨F',rfl⟩ : ∃ F',F = F' + 1 := ⟨F - 1,by omega⟩
 simp (disch := first|omega|(simp only [zS];first|done|omega)) [bB,a41,r41_0,r41_1,r41_3,loopK_succ,l41_8,r41_4,r41_9]
 exact Ans.of ⟨rfl,rfl⟩
theorem sameHeld_z (hF : Big F) : Ans (cf (F + 2) 10 [.agg ⟨hdZ⟩,.agg ⟨hdZ⟩] h) (TrV h) := by
 rw [cf_step (a := a10) rfl rfl (by simp [a10])]
 have e1 := fun (g : H) => sameTexts_spec (F := F) (h := g) (ok := T) (ok' := T) (v := nl) (w := nl) (xs := []) (.inl ⟨.inl rfl,rfl⟩) (.inl ⟨.inl rfl,rfl⟩) (by simp) hF
 generalize cf (F + 1) = c at *
 simp (disch := first|omega|(simp only [zS];first|done|omega)) [bB,a10,r10_0,hdZ,r10_1,ba_self]
 refine Ans.nextC (e1 _) ?_
 rintro v h' ⟨rfl,rfl⟩
 simp (disch := first|omega|(simp only [zS];first|done|omega)) [bB]
 exact Ans.of ⟨(rowKept _ _ _ _).trans (rowKept _ _ _ _),rfl⟩
end Go.Proofs.YtalamcchkkdelaaGreatDoor
end
section
set_option maxRecDepth 100000
namespace Go.Proofs.YtalamcchkkdelaaGreatDoor
open Go.Ev
variable {F : Nat} {h : H}
def CalV (h : H) (v : Value) (h' : H) : Prop := Kept h h' [] ∧ v = .tuple ⟨[.agg ⟨xZ⟩,.bool true]⟩
set_option maxHeartbeats 4000000 in
theorem called_tail {m : Value} {e : Env} {g : H} {kn : K} {ke : Nat → K} (hF : Big F) (q0 : e.get 0 = m) (q4 : e.get 4 = .pointer (some ⟨h.size,0,none⟩)) (q6 : e.get 6 = .pointer (some ⟨h.size + 2,0,none⟩)) (q8 : e.get 8 = nl) (q9 : e.get 9 = nl) (q10 : e.get 10 = .bool true)
  (k : Kept h g []) (p1 : hget g h.size = some (.cells xZ 0 true [])) (p3 : hget g (h.size + 2) = some (.cells xZ 0 true [])) (d : Dead m h) :
  Ans (evC (F + 8) (cxOf (cf (F + 8)) (cfX XD) [.cellN 6 26,.tmp 7]) (.seq (.region r13_20 [4,6,8,9,10,14]) (.seq (.regionD d13_21 [(0,[10,11,13]),(8,[11])] [6,7]) .ret)) kn ke (endK (cfX XD) [.cellN 6 26,.tmp 7]) e g []) (CalV h) := by
 have e1 := fun (g : H) (d : Dead m g) => sight_dead (F := F + 6) d
 have e2 := fun (g : H) => rsight_spec (F := F + 7) (h := g)
 have e3 := fun (g : H) => sameWishes_nl (F := F + 7) (h := g) (by omega)
 have e4 := fun (g : H) => sameHeld_z (F := F + 6) (h := g) (hF.w 6)
 have a1 : F + 6 + 2 = F + 8 := by omega
 have a2 : F + 7 + 1 = F + 8 := by omega
 rw [a1] at e1 e4
 rw [a2] at e2 e3
 generalize cf (F + 8) = c at *
 simp (disch := first|omega|(simp only [zS];first|done|omega)) [bB,r13_20,q0,q4,q6,q8,q9,q10]
 refine Ans.nextC (e1 _ (d.kept k)) ?_
 rintro u g1 ⟨k1,rfl⟩
 have p11 := kget p1 k1
 have p31 := kget p3 k1
 have kh := rowKept g1 hdZ 0 []
 have hh : hget (Ev.newRow g1 hdZ 0 []) g1.size = some (.cells hdZ 0 true []) := by simp
 have p12 := kget p11 kh
 have p32 := kget p31 kh
 have k2 := (k.trans k1).trans kh
 simp (disch := first|omega|(simp only [zS];first|done|omega)) [bB,hdZ,q0,q4,q6,q8,q9,q10]
 show Ans (evD _ d13_21 _ _ (Ev.newRow g1 hdZ 0 []) _ _) _
 generalize Ev.newRow g1 hdZ 0 [] = g2 at *
 have hh' := hh
 simp only [hdZ] at hh'
 have p12' := p12
 simp only [xZ] at p12'
 simp (disch := first|omega|(simp only [zS];first|done|omega)) [bB,d13_21,p12',hh',blanks]
 refine Ans.nextCD (e3 _) ?_
 rintro u g3 ⟨rfl,rfl⟩
 simp (disch := first|omega|(simp only [zS];first|done|omega)) [bB,hh',p12',blanks]
 refine Ans.nextCD (e2 _) ?_
 rintro u g4 ⟨k4,rfl⟩
 simp (disch := first|omega|(simp only [zS];first|done|omega)) [bB,blanks]
 refine Ans.nextCD (e4 _) ?_
 rintro u g5 ⟨k5,rfl⟩
 have p14 := kget p12' k4
 have p15 := kget p14 k5
 have h4 := kget hh' k4
 have p35 := kget (kget p32 k4) k5
 simp only [xZ] at p35
 have s35 := lt_of_get p35
 have s15 := lt_of_get p15
 simp (disch := first|omega|(simp only [zS];first|done|omega)) [bB,dk_go,chks_nil,chks_cons,chkA_nil,chkA_cons,chk1_no,chk1_yes,chkV_some,hAt_eq,hOf_some,hOf_none,sameV,sameL,sameCell,blanks,p12',p14,p15,h4,hh',p35,ba_self]
 exact Ans.of ⟨kept_set ((k2.trans k4).trans k5) (by omega),rfl⟩
theorem three_rows {a b c : List Value} : ∃ g,g = Ev.newRow (Ev.newRow (Ev.newRow h a 0 []) b 0 []) c 0 [] ∧ Kept h g [] ∧ g.size = h.size + 3 ∧ hget g h.size = some (.cells a 0 true []) ∧ hget g (h.size + 1) = some (.cells b 0 true []) ∧ hget g (h.size + 2) = some (.cells c 0 true []) := by
 refine ⟨_,rfl,((rowKept _ _ _ _).trans (rowKept _ _ _ _)).trans (rowKept _ _ _ _),by simp,?_,?_,?_⟩
 all_goals simp (disch := first|omega|(simp only [zS];first|done|omega))
structure AcR (h : H) (x : Ac) (v vo vr vc vp vn : Value) : Prop where
 names : SlR T 1 IntR h v x.names
 few : x.names.length ≤ 2097152
 td : TdR h x.td vo vr vc vp vn
 tb : TdB x.td
theorem AcR.kept {h g : H} {x : Ac} {v vo vr vc vp vn : Value} (a : AcR h x v vo vr vc vp vn) (k : Kept h g []) : AcR g x v vo vr vc vp vn := ⟨slr_kept a.names k fun _ _ _ q => q,a.few,a.td.kept k,a.tb⟩
set_option maxHeartbeats 8000000 in
theorem called_spec {m v vo vr vc vp vn : Value} {x : Ac} (d : Dead m h) (hA : AcR h x v vo vr vc vp vn) (hF : Big F) : Ans (cf (F + 9) 13 [m,.agg ⟨xZ⟩,.agg ⟨acC x v vo vr vc vp vn⟩] h) (CalV h) := by
 rw [cf_step (a := a13) rfl rfl (by simp [a13])]
 have tail := fun (e : Env) (g : H) (kn : K) (ke : Nat → K) q0 q4 q6 q8 q9 q10 (k : Kept h g []) (p1 : hget g h.size = some (.cells xZ 0 true [])) (p3 : hget g (h.size + 2) = some (.cells xZ 0 true [])) => called_tail (m := m) (e := e) (g := g) (kn := kn) (ke := ke) hF q0 q4 q6 q8 q9 q10 k p1 p3 d
 simp only [evC_seq,evC_region] at tail
 have e1 := fun (g : H) (d : Dead m g) => begin_dead (F := F + 6) d
 have e2 := fun (g : H) => rbegin_spec (F := F + 7) (h := g)
 have e3 := fun (g : H) (d : Dead m g) => leave_dead (F := F + 6) d
 have e4 := fun (g : H) => rleave_spec (F := F + 7) (h := g)
 have e5 := fun (g : H) (a : AcR g x v vo vr vc vp vn) => fit_spec (F := F + 3) (h := g) a.names a.few a.td a.tb (hF.w 3)
 have e6 := fun (g : H) (t : Td) (vo vr vc vp vn : Value) (hR : TdR g t vo vr vc vp vn) (hB : TdB t) => lawful_spec (F := F) hR hB hF
 have e7 := fun (g : H) (t : Td) (vo vr vc vp vn : Value) (hR : TdR g t vo vr vc vp vn) (hB : TdB t) => twin_spec (F := F + 7) hR hB (hF.w 7)
 have e8 := fun (g : H) (l : List Value) (d : Dead m g) => hear_dead (F := F + 6) (l := l) d
 have e9 := fun (g : H) (t : Td) (vo vr vc vp vn wo wr wc wp wn : Value) (hR : TdR g t vo vr vc vp vn) (hS : TdR g t wo wr wc wp wn) (hB : TdB t) => same_spec (F := F + 6) hR hS hB (hF.w 6)
 have e10 := fun (g : H) (t : Td) (vo vr vc vp vn : Value) => rhear_spec (F := F + 7) (h := g) (t := t) (vo := vo) (vr := vr) (vc := vc) (vp := vp) (vn := vn) (by omega)
 have e11 := fun (g : H) (κ : Kp) (t : Td) (vo vr vc vp vn : Value) (hO : Own κ g t vo vr vc vp vn) (hB : TdB t) => spoil_spec (F := F + 7) hO hB (hF.w 7)
 have a1 : F + 6 + 2 = F + 8 := by omega
 have a2 : F + 7 + 1 = F + 8 := by omega
 have a3 : F + 3 + 5 = F + 8 := by omega
 rw [a1] at e1 e3 e8 e9
 rw [a2] at e2 e4 e7 e10 e11
 rw [a3] at e5
 generalize cf (F + 8) = c at *
 obtain ⟨ac,hac⟩ : ∃ l,l = acC x v vo vr vc vp vn := ⟨_,rfl⟩
 have acl : ac.length = 31 := by rw [hac];rfl
 have ac0 : ac.take 1 = [vi x.kind] := by rw [hac];rfl
 have acA : ac.take 31 = ac := List.take_of_length_le (by omega)
 rw [← hac] at e5 ⊢
 clear hac
 have xz26 : xZ.take 26 = xZ := rfl
 simp (disch := first|omega|(simp only [zS];first|done|omega)) [bB,a13,r13_0,r13_1,r13_2,r13_3]
 obtain ⟨g,hg,kg,zg,p1,p2,p3⟩ := three_rows (h := h) (a := xZ) (b := ac) (c := xZ)
 show Ans (evR _ r13_4 _ (Ev.newRow (Ev.newRow (Ev.newRow h xZ 0 []) ac 0 []) xZ 0 []) _ _ _) _
 rw [← hg]
 clear hg
 have s1 := lt_of_get p1
 by_cases h1 : x.kind = 1
 ·simp (disch := first|omega|(simp only [zS];first|done|omega)) [bB,r13_4,p2,acl,ac0,h1,r13_5]
  refine Ans.nextC (e1 _ (d.kept kg)) ?_
  rintro u g1 ⟨k1,rfl⟩
  have p11 := kget p1 k1
  have p31 := kget p3 k1
  simp (disch := first|omega|(simp only [zS];first|done|omega)) [bB,r13_6,p11,xzl,xz26]
  refine Ans.nextC (e2 _) ?_
  rintro u g2 ⟨k2,rfl⟩
  have p12 := kget p11 k2
  have p32 := kget p31 k2
  have s2 := lt_of_get p12
  simp only [xZ] at p12
  simp (disch := first|omega|(simp only [zS];first|done|omega)) [bB,xT,xZ,p12]
  have k3 := (kg.trans k1).trans k2
  exact tail _ _ _ _ rfl rfl rfl rfl rfl rfl (kept_set k3 (Nat.le_refl _)) (by rw [set_self rfl s2];rfl) (by rw [set_other (by omega)];exact p32)
 by_cases h2 : x.kind = 2
 ·simp (disch := first|omega|(simp only [zS];first|done|omega)) [bB,r13_4,p2,acl,ac0,h1,r13_7,h2,r13_8]
  refine Ans.nextC (e3 _ (d.kept kg)) ?_
  rintro u g1 ⟨k1,rfl⟩
  have p11 := kget p1 k1
  have p31 := kget p3 k1
  simp (disch := first|omega|(simp only [zS];first|done|omega)) [bB,r13_9,p11,xzl,xz26]
  refine Ans.nextC (e4 _) ?_
  rintro u g2 ⟨k2,rfl⟩
  have p12 := kget p11 k2
  have p32 := kget p31 k2
  have s2 := lt_of_get p12
  simp only [xZ] at p12
  simp (disch := first|omega|(simp only [zS];first|done|omega)) [bB,xT,xZ,p12]
  have k3 := (kg.trans k1).trans k2
  exact tail _ _ _ _ rfl rfl rfl rfl rfl rfl (kept_set k3 (Nat.le_refl _)) (by rw [set_self rfl s2];rfl) (by rw [set_other (by omega)];exact p32)
 by_cases h3 : x.kind ≥ 3
 case neg =>
  simp (disch := first|omega|(simp only [zS];first|done|omega)) [bB,r13_4,p2,acl,ac0,h1,r13_7,h2,r13_10,h3]
  exact tail _ _ _ _ rfl rfl rfl rfl rfl rfl kg p1 p3
 by_cases h9 : x.kind ≤ 9
 case neg =>
  simp (disch := first|omega|(simp only [zS];first|done|omega)) [bB,r13_4,p2,acl,ac0,h1,r13_7,h2,r13_10,h3,h9]
  exact tail _ _ _ _ rfl rfl rfl rfl rfl rfl kg p1 p3
 simp (disch := first|omega|(simp only [zS];first|done|omega)) [bB,r13_4,p2,acl,ac0,h1,r13_7,h2,r13_10,h3,h9,r13_11,p1,xzl,xz26,acA]
 refine Ans.nextC (e5 _ (hA.kept kg)) ?_
 rintro u g1 ⟨k1,t,wo,wr',wc,wp,wn,rfl,hR,hB⟩
 obtain ⟨ta1,ta2,ta3,rfl⟩ := sl_is hR.ops
 obtain ⟨tb1,tb2,tb3,rfl⟩ := sl_is hR.results
 obtain ⟨tc1,tc2,tc3,rfl⟩ := sl_is hR.changes
 obtain ⟨td1,td2,td3,rfl⟩ := sl_is hR.parts
 obtain ⟨te1,te2,te3,rfl⟩ := sl_is hR.nodes
 simp (disch := first|omega|(simp only [zS];first|done|omega)) [bB,tdC]
 show Ans (evR _ r13_12 _ (Ev.newRow g1 (tdC t (.slice ta1 ta2 ta3) (.slice tb1 tb2 tb3) (.slice tc1 tc2 tc3) (.slice td1 td2 td3) (.slice te1 te2 te3)) 0 []) _ _ _) _
 have kt := rowKept g1 (tdC t (.slice ta1 ta2 ta3) (.slice tb1 tb2 tb3) (.slice tc1 tc2 tc3) (.slice td1 td2 td3) (.slice te1 te2 te3)) 0 []
 have ht : hget (Ev.newRow g1 (tdC t (.slice ta1 ta2 ta3) (.slice tb1 tb2 tb3) (.slice tc1 tc2 tc3) (.slice td1 td2 td3) (.slice te1 te2 te3)) 0 []) g1.size = some (.cells (tdC t (.slice ta1 ta2 ta3) (.slice tb1 tb2 tb3) (.slice tc1 tc2 tc3) (.slice td1 td2 td3) (.slice te1 te2 te3)) 0 true []) := by simp
 have tll : (tdC t (.slice ta1 ta2 ta3) (.slice tb1 tb2 tb3) (.slice tc1 tc2 tc3) (.slice td1 td2 td3) (.slice te1 te2 te3)).length = 26 := rfl
 have tlA : (tdC t (.slice ta1 ta2 ta3) (.slice tb1 tb2 tb3) (.slice tc1 tc2 tc3) (.slice td1 td2 td3) (.slice te1 te2 te3)).take 26 = tdC t (.slice ta1 ta2 ta3) (.slice tb1 tb2 tb3) (.slice tc1 tc2 tc3) (.slice td1 td2 td3) (.slice te1 te2 te3) := rfl
 have k1t := (kg.trans k1).trans kt
 have hRt := hR.kept kt
 have p1t := kget (kget p1 k1) kt
 have p3t := kget (kget p3 k1) kt
 have e6a := e6 (Ev.newRow g1 (tdC t (.slice ta1 ta2 ta3) (.slice tb1 tb2 tb3) (.slice tc1 tc2 tc3) (.slice td1 td2 td3) (.slice te1 te2 te3)) 0 []) t _ _ _ _ _ hRt hB
 generalize Ev.newRow g1 (tdC t (.slice ta1 ta2 ta3) (.slice tb1 tb2 tb3) (.slice tc1 tc2 tc3) (.slice td1 td2 td3) (.slice te1 te2 te3)) 0 [] = gt at *
 have stt := lt_of_get ht
 simp (disch := first|omega|(simp only [zS];first|done|omega)) [bB,r13_12,ht,tll,tlA]
 refine Ans.nextC e6a ?_
 rintro u g2 ⟨k2,bb,rfl⟩
 have p12 := kget p1t k2
 have p32 := kget p3t k2
 have ht2 := kget ht k2
 have kh2 := k1t.trans k2
 have hR2 := hRt.kept k2
 cases bb with
 | false =>
  have s32 := lt_of_get p32
  simp only [xZ] at p32 p12
  simp (disch := first|omega|(simp only [zS];first|done|omega)) [bB,r13_13,aUn,r13_14,p12,p32]
  exact Ans.of ⟨kept_set kh2 (by omega),rfl⟩
 | true =>
 simp (disch := first|omega|(simp only [zS];first|done|omega)) [bB,r13_13,aUn,r13_15,ht2,tll,tlA]
 refine Ans.nextC (e7 _ t _ _ _ _ _ hR2 hB) ?_
 rintro u g3 ⟨k3,wo',wr2,wc',wp',wn',κ,rfl,hκ,hO⟩
 obtain ⟨ua,hua⟩ := bld_is hO.ops
 obtain ⟨ub,hub⟩ := bld_is hO.results
 obtain ⟨uc,huc⟩ := bld_is hO.changes
 obtain ⟨ud,hud⟩ := bld_is hO.parts
 obtain ⟨ue,hue⟩ := bld_is hO.nodes
 obtain ⟨tw,htw⟩ : ∃ l,l = tdC t wo' wr2 wc' wp' wn' := ⟨_,rfl⟩
 have twl : tw.length = 26 := by rw [htw];rfl
 have twA : tw.take 26 = tw := List.take_of_length_le (by omega)
 have two : ∀ y ∈ tw,oneCell y = true := by
  rw [htw,hua,hub,huc,hud,hue]
  intro y hy
  simp only [tdC,List.mem_cons,List.not_mem_nil,or_false] at hy
  rcases hy with rfl | rfl | rfl | rfl | rfl | rfl | rfl | rfl | rfl | rfl | rfl | rfl | rfl | rfl | rfl | rfl | rfl | rfl | rfl | rfl | rfl | rfl | rfl | rfl | rfl | rfl <;> rfl
 have two' := two
 unfold oneCell at two'
 have two' := eq_true two'
 have e8a := fun (g : H) (d : Dead m g) => e8 g tw d
 have e9a := fun (g : H) (hO : Own κ g t wo' wr2 wc' wp' wn') (hR : TdR g t (.slice ta1 ta2 ta3) (.slice tb1 tb2 tb3) (.slice tc1 tc2 tc3) (.slice td1 td2 td3) (.slice te1 te2 te3)) => e9 g t _ _ _ _ _ _ _ _ _ _ hO.td hR hB
 have e11a := fun (g : H) (hO : Own κ g t wo' wr2 wc' wp' wn') => e11 g κ t _ _ _ _ _ hO hB
 rw [← htw] at e9a e11a ⊢
 clear e8 e9 e11 e7 e6 e5
 simp (disch := first|omega|(simp only [zS];first|done|omega)) [bB,two',twl]
 have kw := rowKept g3 tw 0 []
 have hw : hget (Ev.newRow g3 tw 0 []) g3.size = some (.cells tw 0 true []) := by simp
 have hOw := hO.kept kw
 have k4 := k3.trans kw
 have zw : (Ev.newRow g3 tw 0 []).size = g3.size + 1 := by simp
 generalize Ev.newRow g3 tw 0 [] = g4 at *
 have p14 := kget p12 k4
 have p34 := kget p32 k4
 have ht4 := kget ht2 k4
 simp (disch := first|omega|(simp only [zS];first|done|omega)) [bB,r13_16,hw,twl,twA]
 refine Ans.nextC (e8a _ (d.kept (kh2.trans k4))) ?_
 rintro u g5 ⟨k5,rfl⟩
 have p15 := kget p14 k5
 have p35 := kget p34 k5
 have ht5 := kget ht4 k5
 have hw5 := kget hw k5
 have hO5 := hOw.kept k5
 simp (disch := first|omega|(simp only [zS];first|done|omega)) [bB,r13_17,hw5,twl,twA,ht5,tll,tlA]
 refine Ans.nextC (e9a _ hO5 ((hR2.kept k4).kept k5)) ?_
 rintro u g6 ⟨k6,rfl⟩
 have p16 := kget p15 k6
 have p36 := kget p35 k6
 have ht6 := kget ht5 k6
 have hw6 := kget hw5 k6
 have hO6 := hO5.kept k6
 simp (disch := first|omega|(simp only [zS];first|done|omega)) [bB,r13_18,p16,xzl,xz26,ht6,tll,tlA]
 refine Ans.nextC (e10 _ _ _ _ _ _ _) ?_
 rintro u g7 ⟨k7,rfl⟩
 have p17 := kget p16 k7
 have p37 := kget p36 k7
 have hw7 := kget hw6 k7
 have hO7 := hO6.kept k7
 have s7 := lt_of_get p17
 have s27 : h.size < g2.size := lt_of_get p12
 have s47 : g3.size < g7.size := lt_of_get hw7
 have q17 := p17
 simp only [xZ] at q17
 have kk7 : Kept g2 g7 [] := ((k4.trans k5).trans k6).trans k7
 simp (disch := first|omega|(simp only [zS];first|done|omega)) [bB,xT,xZ,q17]
 show Ans (evR _ r13_19 _ (g7.setIfInBounds h.size (.cells xZ 0 true [])) _ _ _) _
 have kS := kept_set (x := .cells xZ 0 true []) (kh2.trans kk7) (Nat.le_refl h.size)
 have κ0 : κ h.size = 0 := hκ _ s27
 have hO8 := hO7.tr (ch_set (X := .cells xZ 0 true []) κ0) (Agr.refl _ _)
 have w8 : hget (g7.setIfInBounds h.size (.cells xZ 0 true [])) g3.size = some (.cells tw 0 true []) := by rw [set_other (by have := k3.1;omega)];exact hw7
 have x8 : hget (g7.setIfInBounds h.size (.cells xZ 0 true [])) h.size = some (.cells xZ 0 true []) := by rw [set_self rfl s7]
 have r8 : hget (g7.setIfInBounds h.size (.cells xZ 0 true [])) (h.size + 2) = some (.cells xZ 0 true []) := by rw [set_other (by omega)];exact p37
 have z8 : (g7.setIfInBounds h.size (.cells xZ 0 true [])).size = g7.size := by simp
 generalize g7.setIfInBounds h.size (.cells xZ 0 true []) = g8 at *
 simp (disch := first|omega|(simp only [zS];first|done|omega)) [bB,r13_19,w8,twl,twA]
 refine Ans.nextC (e11a _ hO8) ?_
 rintro u g9 ⟨rfl,k9,f9⟩
 have s22 : h.size + 2 < g2.size := lt_of_get p32
 have z72 := kk7.1
 simp (disch := first|omega|(simp only [zS];first|done|omega)) [bB]
 refine tail _ _ _ _ rfl rfl rfl rfl rfl rfl ⟨Nat.le_trans kS.1 k9,fun b hb hn => ?_⟩ ?_ ?_
 ·rw [f9 b (by have := kS.1;omega) (hκ b (by have := kh2.1;omega))]
  exact kS.2 b hb hn
 ·rw [f9 _ (by omega) κ0];exact x8
 ·rw [f9 _ (by omega) (hκ _ s22)];exact r8
end Go.Proofs.YtalamcchkkdelaaGreatDoor
end
section
set_option maxRecDepth 100000
namespace Go.Proofs.YtalamcchkkdelaaGreatDoor
open Go.Ev
variable {F : Nat} {h : H}
def namedN : List Int := (List.range 128).map fun c => if (48 ≤ c && c ≤ 57) || (65 ≤ c && c ≤ 90) || (97 ≤ c && c ≤ 122) || c == 95 || c == 45 || c == 46 then (1 : Int) else 0
structure Glo (h : H) : Prop where
 named : ∃ es lv an,hget h 0 = some (.cells (namedN.map fun n => Value.int .u8 n) es lv an)
 max : ∃ m cs es lv an,hget h 1 = some (.cells (.int .i64 m :: cs) es lv an)
theorem Glo.kept {h g : H} (G : Glo h) (k : Kept h g []) : Glo g := by
 obtain ⟨⟨es,lv,an,h0⟩,⟨m,cs,es',lv',an',h1⟩⟩ := G
 exact ⟨⟨es,lv,an,kget h0 k⟩,⟨m,cs,es',lv',an',kget h1 k⟩⟩
def gb (c : UInt8) : Bool := namedN[c.toNat]? == some 1
theorem gb_lt {c : UInt8} (h : gb c = true) : c.toNat < 128 := by
 unfold gb at h
 have : namedN[c.toNat]? = some 1 := by simpa using h
 have := (List.getElem?_eq_some_iff.1 this).1
 simpa [namedN] using this
theorem gb_at {c : UInt8} (h : gb c = true) : ((namedN.map fun n => Value.int .u8 n).drop c.toNat).take 1 = [.int .u8 1] := by
 unfold gb at h
 have h1 : namedN[c.toNat]? = some 1 := by simpa using h
 have h2 : (namedN.map fun n => Value.int .u8 n)[c.toNat]? = some (.int .u8 1) := by rw [List.getElem?_map,h1];rfl
 obtain ⟨hl,he⟩ := List.getElem?_eq_some_iff.1 h2
 rw [List.drop_eq_getElem_cons hl,he];rfl
structure Nm (t : ByteArray) : Prop where
 e : (t == ByteArray.mk #[]) = false
 l : slen t ≤ 16
 d : (t == str46) = false
 dd : (t == str46_46) = false
 g : ∀ c ∈ bs t,gb c = true
theorem prefix_spec (t : ByteArray) (h1 : 1 ≤ slen t) : Ans (cf (F + 2) 59 [.string t,.string str47] h) fun v h' => h' = h ∧ v = .bool (t.extract 0 1 == str47) := by
 rw [cf_step (a := a59) rfl rfl (by simp [a59])]
 have e1 : Ans (cf (F + 1) 100 [.string t,.string str47] h) fun v h' => h' = h ∧ v = .bool (t.extract 0 1 == str47) := by
  rw [cf_step (a := a100) rfl rfl (by simp [a100])]
  have s1 : slen str47 = 1 := rfl
  have q : (1 : Int) ≤ slen t := by omega
  have c1 : cutS t 0 1 h = some (.string (t.extract 0 1),h) := cutS_ok (by omega) h1
  simp (disch := first|omega|(simp only [zS];first|done|omega)) [bB,a100,r100_0,r100_1,s1,q,pcS_eq,optInt,c1]
  exact Ans.of ⟨rfl,rfl⟩
 generalize cf (F + 1) = c at *
 simp (disch := first|omega|(simp only [zS];first|done|omega)) [bB,a59,r59_0,r59_1]
 refine Ans.nextC e1 ?_
 rintro v h' ⟨rfl,rfl⟩
 simp (disch := first|omega|(simp only [zS];first|done|omega)) [bB]
 exact Ans.of ⟨rfl,rfl⟩
set_option maxHeartbeats 1000000 in
theorem isName_spec {t : ByteArray} (G : Glo h) (n : Nm t) (hF : 100 ≤ F) : Ans (cf (F + 1) 61 [.string t] h) (IsT h) := by
 rw [cf_step (a := a61) rfl rfl (by simp [a61])]
 obtain ⟨es,lv,an,h0⟩ := G.named
 have hl := n.l
 have hl' : ¬ ((slen t : Int) > 16) := by omega
 have h128 : (namedN.map fun n => Value.int .u8 n).length = 128 := by simp [namedN]
 simp (disch := first|omega|(simp only [zS];first|done|omega)) [bB,a61,r61_0,r61_1,n.e,hl',n.d,n.dd,r61_3]
 refine loop_rule (fun m e g => ∃ i : Nat,i ≤ slen t ∧ m = slen t - i ∧ g = h ∧ e = [(0,.string t),(20,vi (slen t)),(21,vi i)]) ?_ F (slen t - 0) _ h (by omega) ⟨0,by omega,rfl,rfl,rfl⟩
 rintro m e g again ⟨i,hi,rfl,rfl,rfl⟩ hag
 by_cases hlt : i < slen t
 ·have hlt' : (i : Int) < slen t := by omega
  obtain ⟨c,hc⟩ := byte_at t hlt
  have hg := n.g c (List.mem_of_getElem? hc)
  have hcl := gb_lt hg
  have hca := gb_at hg
  have hn128 : ¬ ((c.toNat : Int) ≥ 128) := by omega
  have hc128 : (c.toNat : Int) < 128 := by omega
  have hc1 : c.toNat + 1 ≤ 128 := by omega
  have wi : IntKind.i64.wrap ((i : Int) + 1) = (i : Int) + 1 := wrap_in (by omega) (by omega)
  have zg : (0 : Nat) < gN := by decide
  simp (disch := first|omega|(simp only [zS];first|done|omega)) [bB,l61_9,r61_4,hlt',r61_5,r61_6,atS_nat hc,hn128,hc128,h0,h128,hc1,hca,zg,r61_8,wi]
  exact hag (slen t - (i + 1)) _ _ (by omega) ⟨i + 1,hlt,rfl,rfl,rfl⟩
 ·have : i = slen t := by omega
  subst this
  simp (disch := first|omega|(simp only [zS];first|done|omega)) [bB,l61_9,r61_4,r61_10]
  exact Ans.of ⟨rfl,rfl⟩
end Go.Proofs.YtalamcchkkdelaaGreatDoor
end
section
set_option maxRecDepth 100000
namespace Go.Proofs.YtalamcchkkdelaaGreatDoor
open Go.Ev
variable {F : Nat} {h : H}
theorem nm_l : Nm str108 := ⟨by rw [ba_beq];decide,by decide,by rw [ba_beq];decide,by rw [ba_beq];decide,by decide⟩
def lockW : ByteArray := str108_111_99_107_45
theorem nm_lock : Nm lockW := ⟨by rw [ba_beq];decide,by decide,by rw [ba_beq];decide,by rw [ba_beq];decide,by decide⟩
theorem nm_lock0 : Nm (lockW ++ str48_48_48_48_48) := ⟨by rw [ba_beq];decide,by decide,by rw [ba_beq];decide,by rw [ba_beq];decide,by decide⟩
theorem split_l (G : Glo h) : cf (F + 1) 60 [.string str108,.string str47] h = some (.slice (some ⟨h.size,0,none⟩) 1 1,Ev.newRow h [.string str108] 1 []) := by
 rw [cf_X (x := xSplit) rfl]
 obtain ⟨m,cs,es,lv,an,h1⟩ := G.max
 have hs : str108.size < 4294967281 ∧ 1 ≤ str47.size := by decide
 have c0 : Lib.countB str108 str47 = 0 := by decide
 have l0 : splitL' str108 str47 = [str108] := by
  unfold splitL'
  rw [c0]
  rfl
 simp only [xSplit,h1,if_pos hs,l0,c0]
 rfl
def PlV (h : H) (v : Value) (h' : H) : Prop := Kept h h' [] ∧ ∃ sl,v = .tuple ⟨[sl,vi 0]⟩ ∧ Bld (fun b => h.size ≤ b) 1 TxR h' sl [str108]
set_option maxHeartbeats 1000000 in
theorem parse_l (G : Glo h) (hF : 100 ≤ F) : Ans (cf (F + 3) 23 [.string str47_108] h) (PlV h) := by
 rw [cf_step (a := a23) rfl rfl (by simp [a23])]
 have e1 := prefix_spec (F := F) (h := h) str47_108 (by decide)
 have e2 := split_l (F := F + 1) (h := h) G
 have e3 := fun (g : H) (G : Glo g) => isName_spec (F := F + 1) (h := g) G nm_l (by omega)
 generalize cf (F + 2) = c at *
 have s2 : slen str47_108 = 2 := rfl
 have b1 : (str47_108 == str47) = false := by rw [ba_beq];decide
 have b2 : (str47_108.extract 0 1 == str47) = true := by rw [ba_beq,bs_ext];decide
 have x1 : str47_108.extract 1 2 = str108 := bs_inj (by rw [bs_ext];decide)
 have c1 : cutS str47_108 1 2 h = some (.string str108,h) := by rw [cutS_ok (by omega) (by decide),x1]
 rw [b2] at e1
 simp (disch := first|omega|(simp only [zS];first|done|omega)) [bB,a23,r23_0,r23_1,s2,r23_3,b1,r23_5]
 refine Ans.nextC e1 ?_
 rintro u g ⟨rfl,rfl⟩
 have k1 := rowKept g [.string str108] 1 []
 have hr : hget (Ev.newRow g [.string str108] 1 []) g.size = some (.cells [.string str108] 1 true []) := by simp
 simp (disch := first|omega|(simp only [zS];first|done|omega)) [bB,aUn,r23_7,pcS_eq,optInt,s2,c1,e2,r23_8,r23_10]
 have G1 := G.kept k1
 generalize Ev.newRow g [.string str108] 1 [] = g1 at *
 obtain ⟨F',rfl⟩ : ∃ F',F = F' + 2 := ⟨F - 2,by omega⟩
 have q4 : F' + 2 + 2 = F' + 3 + 1 := rfl
 simp only [q4]
 rw [loopK_succ]
 simp (disch := first|omega|(simp only [zS];first|done|omega)) [bB,l23_16,r23_11,r23_12,hr,r23_13]
 refine Ans.nextC (e3 _ G1) ?_
 rintro u g2 ⟨rfl,rfl⟩
 have q5 : F' + 3 = F' + 2 + 1 := rfl
 simp (disch := first|omega|(simp only [zS];first|done|omega)) [bB,aUn,r23_15,show IntKind.i64.wrap 1 = 1 from rfl]
 rw [q5,loopK_succ]
 simp (disch := first|omega|(simp only [zS];first|done|omega)) [bB,l23_16,r23_11,r23_17]
 exact Ans.of ⟨k1,_,rfl,.inr ⟨g.size,_,[],rfl,⟨Nat.le_refl _,by simp⟩,hr,rfl,fun i y hy => by
  cases i with
  | zero => simp at hy;subst hy;rfl
  | succ i => simp at hy⟩⟩
theorem join_two (t : ByteArray) (hj : (joinT [str108,t] str47).length ≤ 140737488355328) {sl : Value} {ok : Nat → Prop} (hB : Bld ok 1 TxR h sl [str108,t]) : cf (F + 1) 102 [sl,.string str47] h = some (.string ⟨(joinT [str108,t] str47).toArray⟩,h) := by
 rw [cf_X (x := xJoin) rfl]
 rcases hB with ⟨_,e⟩ | ⟨b,cs,an,rfl,hk,hg,hl,hi⟩
 ·cases e
 ·have h0 : (cs.drop (0 * 1)).take 1 = [.string str108] := hi 0 _ rfl
  have h1 : (cs.drop (1 * 1)).take 1 = [.string t] := hi 1 _ rfl
  have hcs : cs = [.string str108,.string t] := by
   match cs,hl with
   | [a,b],_ =>
    simp at h0 h1
    rw [h0,h1]
  subst hcs
  have hrd : rd h b 0 2 = some [.string str108,.string t] := by simp [rd,hg]
  simp only [xJoin,List.length_cons,List.length_nil,Nat.zero_add,Nat.reduceAdd,hrd,textsOf,Option.map_some]
  rw [if_pos (by omega),if_pos ⟨hj,by omega⟩]
def belowL (t : ByteArray) : ByteArray := str47 ++ ⟨(joinT [str108,t] str47).toArray⟩
set_option maxHeartbeats 1000000 in
theorem join_l {t : ByteArray} {v : Value} {ok : Nat → Prop} (G : Glo h) (n : Nm t) (hS : SlR ok 1 TxR h v [t]) (hj : (joinT [str108,t] str47).length ≤ 1000) (hF : 100 ≤ F) : Ans (cf (F + 4) 24 [.string str47_108,v] h) (RetV (.tuple ⟨[.string (belowL t),vi 0]⟩) h) := by
 rw [cf_step (a := a24) rfl rfl (by simp [a24])]
 have e1 := parse_l (F := F) (h := h) G hF
 have e2 := fun (g : H) (G : Glo g) => isName_spec (F := F + 2) (h := g) G n (by omega)
 have e3 : ∀ (g : H) (ok : Nat → Prop) (sl : Value),Bld ok 1 TxR g sl [str108,t] → Ans (cf (F + 3) 62 [sl] g) (RetV (.string (belowL t)) g) := by
  intro g ok sl hB
  rw [cf_step (a := a62) rfl rfl (by simp [a62])]
  have e := join_two (F := F + 1) (h := g) t (by omega) hB
  generalize cf (F + 2) = c at *
  have s1 : slen str47 = 1 := rfl
  have q : ¬ (9223372036854775807 < (slen str47 : Int) + slen ⟨(joinT [str108,t] str47).toArray⟩) := by
   have : slen ⟨(joinT [str108,t] str47).toArray⟩ = (joinT [str108,t] str47).length := by rw [← bs_len];rfl
   rw [s1,this];omega
  simp (disch := first|omega|(simp only [zS];first|done|omega)) [bB,a62,r62_0,r62_1,e,q]
  exact Ans.of ⟨Kept.refl _ _,rfl⟩
 generalize cf (F + 3) = c at *
 simp (disch := first|omega|(simp only [zS];first|done|omega)) [bB,a24,r24_0,r24_1]
 refine Ans.nextC e1 ?_
 rintro u g ⟨k1,sl,rfl,hB⟩
 have vc := hB.sl.vc
 have hS1 := slr_kept hS k1 fun _ _ _ q => q
 obtain ⟨b,o,cc,cs,es,lv,an,rfl,hg,hl,hr⟩ := tx_at hS1 (i := 0) rfl
 rw [Nat.add_zero] at hl hr
 obtain ⟨v',g',c1,c2,c3⟩ := put_new (h := h) hB k1 (bytes := 16) [.string t] (x := t) rfl (by simp) (fun _ _ _ _ _ _ q => q) (fun _ _ => rfl)
 have ln := hB.sl.len
 have onv := hB.sl.ne_text
 unfold isText at onv
 simp (disch := first|omega|(simp only [zS];first|done|omega)) [bB,vc,r24_2,r24_4]
 obtain ⟨F',rfl⟩ : ∃ F',F = F' + 2 := ⟨F - 2,by omega⟩
 have q4 : F' + 2 + 3 = F' + 4 + 1 := rfl
 simp only [q4]
 rw [loopK_succ]
 simp (disch := first|omega|(simp only [zS];first|done|omega)) [bB,l24_13,r24_5,r24_6,hg,hl,hr,r24_7]
 refine Ans.nextC (e2 _ (G.kept k1)) ?_
 rintro u g2 ⟨rfl,rfl⟩
 simp (disch := first|omega|(simp only [zS];first|done|omega)) [bB,aUn,r24_9,ln,r24_11,srcOf,isText,onv,c1,r24_12,show IntKind.i64.wrap 1 = 1 from rfl]
 have q5 : F' + 4 = F' + 3 + 1 := rfl
 rw [q5,loopK_succ]
 simp (disch := first|omega|(simp only [zS];first|done|omega)) [bB,l24_13,r24_5,r24_14]
 refine Ans.nextC (e3 _ _ _ c2) ?_
 rintro u g3 ⟨k3,rfl⟩
 simp (disch := first|omega|(simp only [zS];first|done|omega)) [bB]
 exact Ans.of ⟨c3.trans k3,rfl⟩
end Go.Proofs.YtalamcchkkdelaaGreatDoor
end
section
set_option maxRecDepth 100000
namespace Go.Proofs.YtalamcchkkdelaaGreatDoor
open Go.Ev
variable {F : Nat} {h : H}
abbrev se : Value := .string ⟨#[]⟩
abbrev fn53 : Value := .func (.func 53) #[] #[]
def kC : List Value := [.string lockW,.bool true,vi 0,vi 0,.bool true,fn53]
theorem callV_rec (cf : CF) (g : FuncId) (a : Value) (args : List Value) (h : H) : callV cf (.func (.func g) ⟨[a]⟩ ⟨[]⟩) args h = cf g (a :: args) h := by
 show cf g ([a] ++ args ++ []) h = _
 simp
theorem kindOf_spec : Ans (cf (F + 1) 22 [vi 1] h) (RetV (.tuple ⟨[.agg ⟨kC⟩,.bool true]⟩) h) := by
 rw [cf_step (a := a22) rfl rfl (by simp [a22])]
 simp (disch := first|omega|(simp only [zS];first|done|omega)) [bB,a22,r22_0,r22_1,r22_2,r22_3]
 exact Ans.of ⟨rowKept _ _ _ _,rfl⟩
theorem lockOf_spec (p : Value) (hp : vcells p = some [p]) (ho : oneCell p = true) : Ans (cf (F + 1) 53 [p] h) fun v h' => Kept h h' [] ∧ v = .iface 130 (.pointer (some ⟨h.size,0,none⟩)) ∧ hget h' h.size = some (.cells [p] 0 true []) := by
 rw [cf_step (a := a53) rfl rfl (by simp [a53])]
 unfold vcells at hp
 unfold oneCell at ho
 simp (disch := first|omega|(simp only [zS];first|done|omega)) [bB,a53,r53_0,r53_1,hp,ho]
 exact Ans.of ⟨rowKept _ _ _ _,rfl,by simp⟩
def mM (ph : Int) (ops : Value) (req : Int) (op : Bool) (th w rec : Value) : List Value :=
 [vi 1,.string str47_108,.string str120,vi 0,.string lockW,.bool true,vi 0,vi 0,.bool true,fn53,vi ph,se,vi 0,vi 0,nl,.bool false,vi 0,ops,vi req,.bool op,th,se,vi 0,vi 0,.bool false,vi 0,se,vi 0,nl,.bool false,nl,w,rec]
structure MaR (h : H) (mb ib : Nat) (ph : Int) (ops : Value) (req : Int) (op : Bool) (th w : Value) : Prop where
 m : hget h mb = some (.cells (mM ph ops req op th w (.iface 130 (.pointer (some ⟨ib,0,none⟩)))) 0 true [])
 i : hget h ib = some (.cells [.pointer (some ⟨mb,0,none⟩)] 0 true [])
 ne : ib ≠ mb
theorem MaR.kept {h g : H} {mb ib : Nat} {ph : Int} {ops : Value} {req : Int} {op : Bool} {th w : Value} (s : MaR h mb ib ph ops req op th w) (k : Kept h g []) : MaR g mb ib ph ops req op th w := ⟨kget s.m k,kget s.i k,s.ne⟩
def NewV (h : H) (v : Value) (h' : H) : Prop := Kept h h' [] ∧ ∃ mb ib,v = .tuple ⟨[.pointer (some ⟨mb,0,none⟩),vi 0]⟩ ∧ h.size ≤ mb ∧ h.size ≤ ib ∧ MaR h' mb ib 0 nl 0 false .nilFunc nl
set_option maxHeartbeats 4000000 in
theorem new_spec (G : Glo h) (hF : 100 ≤ F) : Ans (cf (F + 5) 8 [.agg ⟨[vi 1,.string str47_108,.string str120,vi 0]⟩] h) (NewV h) := by
 rw [cf_step (a := a8) rfl rfl (by simp [a8])]
 have e1 := fun (g : H) => kindOf_spec (F := F + 3) (h := g)
 have e2 := fun (g : H) (p : Value) hp ho => lockOf_spec (F := F + 3) (h := g) p hp ho
 have e3 := fun (g : H) (G : Glo g) => parse_l (F := F + 1) (h := g) G (by omega)
 have e4 := fun (g : H) (G : Glo g) (v : Value) (hS : SlR T 1 TxR g v [lockW ++ str48_48_48_48_48]) => join_l (F := F) (h := g) G nm_lock0 hS (by decide) hF
 generalize cf (F + 4) = c at *
 have k1 := rowKept h [vi 1,.string str47_108,.string str120,vi 0] 0 []
 have b1 : hget (Ev.newRow h [vi 1,.string str47_108,.string str120,vi 0] 0 []) h.size = some (.cells [vi 1,.string str47_108,.string str120,vi 0] 0 true []) := by simp
 have s1 : slen str120 = 1 := rfl
 have s5 : slen lockW = 5 := rfl
 have s6 : slen str48_48_48_48_48 = 5 := rfl
 have x1 : (str120 != ByteArray.mk #[]) = true := by rw [ba_bne];decide
 have x2 : (lockW != ByteArray.mk #[]) = true := by rw [ba_bne];decide
 simp (disch := first|omega|(simp only [zS];first|done|omega)) [bB,a8,r8_0]
 generalize Ev.newRow h [vi 1,.string str47_108,.string str120,vi 0] 0 [] = g1 at *
 simp (disch := first|omega|(simp only [zS];first|done|omega)) [bB,r8_1,b1,s1,r8_3]
 refine Ans.nextC (e1 _) ?_
 rintro u g2 ⟨k2,rfl⟩
 have b2 := kget b1 k2
 have k3 := rowKept g2 kC 0 []
 have b3 : hget (Ev.newRow g2 kC 0 []) g2.size = some (.cells kC 0 true []) := by simp
 have b2' := kget b2 k3
 have kh := (k1.trans k2).trans k3
 simp (disch := first|omega|(simp only [zS];first|done|omega)) [bB,kC]
 show Ans (evR _ r8_4 _ (Ev.newRow g2 kC 0 []) _ _ _) _
 generalize Ev.newRow g2 kC 0 [] = g3 at *
 simp only [kC] at b3
 simp (disch := first|omega|(simp only [zS];first|done|omega)) [bB,r8_4,aUn,r8_6,b2',b3,r8_8]
 refine Ans.nextC (e3 _ (G.kept kh)) ?_
 rintro u g4 ⟨k4,sl,rfl,hB⟩
 have vc := hB.sl.vc
 have b4 := kget b3 k4
 have b24 := kget b2' k4
 simp (disch := first|omega|(simp only [zS];first|done|omega)) [bB,vc,r8_9,r8_11,b4,x2,r8_12,b24,s5,s6]
 have k5 := rowKept g4 [.string (lockW ++ str48_48_48_48_48)] 1 []
 have b5 : hget (Ev.newRow g4 [.string (lockW ++ str48_48_48_48_48)] 1 []) g4.size = some (.cells [.string (lockW ++ str48_48_48_48_48)] 1 true []) := by simp
 have k45 := (kh.trans k4).trans k5
 have hS5 : SlR T 1 TxR (Ev.newRow g4 [.string (lockW ++ str48_48_48_48_48)] 1 []) (.slice (some ⟨g4.size,0,none⟩) 1 1) [lockW ++ str48_48_48_48_48] := .inr ⟨g4.size,0,1,_,rfl,Nat.le_refl _,trivial,cel_of b5,fun i y hy => by
  cases i with
  | succ i => simp at hy
  | zero => simp at hy;subst hy;exact ⟨by simp,rfl⟩⟩
 have b46 := kget b4 k5
 have b26 := kget b24 k5
 generalize Ev.newRow g4 [.string (lockW ++ str48_48_48_48_48)] 1 [] = g5 at *
 refine Ans.nextC (e4 _ (G.kept k45) _ hS5) ?_
 rintro u g6 ⟨k6,rfl⟩
 have b47 := kget b46 k6
 have b27 := kget b26 k6
 have kh6 := k45.trans k6
 simp (disch := first|omega|(simp only [zS];first|done|omega)) [bB,r8_13,r8_15,b27,b47]
 show Ans (evE _ d8_16 _ (Ev.newRow g6 (mM 0 nl 0 false .nilFunc nl .nilIface) 0 []) _ _ _ _ _) _
 have k7 := rowKept g6 (mM 0 nl 0 false .nilFunc nl .nilIface) 0 []
 have b7 : hget (Ev.newRow g6 (mM 0 nl 0 false .nilFunc nl .nilIface) 0 []) g6.size = some (.cells (mM 0 nl 0 false .nilFunc nl .nilIface) 0 true []) := by simp
 have b48 := kget b47 k7
 have z7 : (Ev.newRow g6 (mM 0 nl 0 false .nilFunc nl .nilIface) 0 []).size = g6.size + 1 := by simp
 generalize Ev.newRow g6 (mM 0 nl 0 false .nilFunc nl .nilIface) 0 [] = g7 at *
 simp (disch := first|omega|(simp only [zS];first|done|omega)) [bB,d8_16,b48]
 refine Ans.nextCE (e2 _ (.pointer (some ⟨g6.size,0,none⟩)) rfl rfl) ?_
 rintro u g8 ⟨k8,rfl,i8⟩
 have b78 := kget b7 k8
 have s8 := lt_of_get b78
 have s6 := kh6.1
 simp only [mM] at b78
 simp (disch := first|omega|(simp only [zS];first|done|omega)) [bB,b78,r8_17]
 refine Ans.of ⟨kept_set ((kh6.trans k7).trans k8) s6,g6.size,g7.size,rfl,s6,by omega,⟨by rw [set_self rfl s8];rfl,by rw [set_other (by omega)];exact i8,by omega⟩⟩
theorem new_bad (hF : 100 ≤ F) : Ans (cf (F + 5) 8 [.agg ⟨[vi 1,.string str108,.string str120,vi 5]⟩] h) (RetV (.tuple ⟨[.pointer none,vi 200]⟩) h) := by
 rw [cf_step (a := a8) rfl rfl (by simp [a8])]
 have e1 := fun (g : H) => kindOf_spec (F := F + 3) (h := g)
 generalize cf (F + 4) = c at *
 have k1 := rowKept h [vi 1,.string str108,.string str120,vi 5] 0 []
 have b1 : hget (Ev.newRow h [vi 1,.string str108,.string str120,vi 5] 0 []) h.size = some (.cells [vi 1,.string str108,.string str120,vi 5] 0 true []) := by simp
 have s1 : slen str120 = 1 := rfl
 simp (disch := first|omega|(simp only [zS];first|done|omega)) [bB,a8,r8_0]
 generalize Ev.newRow h [vi 1,.string str108,.string str120,vi 5] 0 [] = g1 at *
 simp (disch := first|omega|(simp only [zS];first|done|omega)) [bB,r8_1,b1,s1,r8_3]
 refine Ans.nextC (e1 _) ?_
 rintro u g2 ⟨k2,rfl⟩
 have b2 := kget b1 k2
 have k3 := rowKept g2 kC 0 []
 have b3 : hget (Ev.newRow g2 kC 0 []) g2.size = some (.cells kC 0 true []) := by simp
 have b2' := kget b2 k3
 have kh := (k1.trans k2).trans k3
 simp (disch := first|omega|(simp only [zS];first|done|omega)) [bB,kC]
 show Ans (evR _ r8_4 _ (Ev.newRow g2 kC 0 []) _ _ _) _
 generalize Ev.newRow g2 kC 0 [] = g3 at *
 simp only [kC] at b3
 simp (disch := first|omega|(simp only [zS];first|done|omega)) [bB,r8_4,aUn,r8_6,b2',b3,r8_7]
 exact Ans.of ⟨kh,rfl⟩
end Go.Proofs.YtalamcchkkdelaaGreatDoor
end
section
set_option maxRecDepth 100000
namespace Go.Proofs.YtalamcchkkdelaaGreatDoor
open Go.Ev
variable {F : Nat} {h : H}
theorem opsClone_spec {v : Value} {o : Opv} (hS : SlR T 5 OpR h v [o]) : Ans (cf (F + 1) 134 [v] h) fun w h' => Kept h h' [] ∧ Bld (fun b => h.size ≤ b) 5 (Pl opC) h' w [o] ∧ ∃ a,w = .slice a 1 1 := by
 rw [cf_step (a := a134) rfl rfl (by simp [a134])]
 obtain ⟨new,v1,g1,a1,a2,a3,a4,a5,a6,a,rfl⟩ := cloned (w := 5) (bytes := 56) (enc := opC) (by decide) (fun _ => rfl) opC_one hS (by simp)
 obtain ⟨b,oo,c,cs,rfl,_⟩ := hS.row (by simp)
 have a46 := a4
 unfold oneCell at a46
 have a46 := eq_true a46
 simp only [List.length_cons,List.length_nil,Nat.zero_add] at a1 a2 a6
 simp (disch := first|omega|(simp only [zS];first|done|omega)) [bB,a134,r134_0,r134_1,r134_3,a1,a2,a46]
 exact Ans.of ⟨a5,a6,_,rfl⟩
def WiR (h : H) (cs : List Value) (o : Opv) : Prop := ∃ v,cs = [vi 1,v,se,vi 0,vi 0] ∧ SlR T 5 OpR h v [o]
theorem WiR.kc {g g' : H} {cs : List Value} {o : Opv} (q : WiR g cs o) (k : KeptC g g' []) : WiR g' cs o := by
 obtain ⟨v,e,s⟩ := q
 exact ⟨v,e,s.kc k (by simp) fun _ _ _ q => q⟩
def WiN (n : Nat) (h : H) (cs : List Value) (o : Opv) : Prop := ∃ v,cs = [vi 1,v,se,vi 0,vi 0] ∧ SlR (fun b => n ≤ b) 5 OpR h v [o]
theorem WiN.kc {n : Nat} {g g' : H} {L : List Nat} {cs : List Value} {o : Opv} (q : WiN n g cs o) (k : KeptC g g' L) (hL : ∀ b ∈ L,¬ n ≤ b) : WiN n g' cs o := by
 obtain ⟨v,e,s⟩ := q
 exact ⟨v,e,s.kc k hL fun _ _ _ q => q⟩
theorem WiN.r {n : Nat} {g : H} {cs : List Value} {o : Opv} (q : WiN n g cs o) : WiR g cs o := by
 obtain ⟨v,e,s⟩ := q
 exact ⟨v,e,sl_T s⟩
def WiM (mb : Nat) (h : H) (cs : List Value) (o : Opv) : Prop := ∃ v,cs = [vi 1,v,se,vi 0,vi 0] ∧ SlR (fun b => b ≠ mb) 5 OpR h v [o]
theorem slr_off {α : Type} {w mb : Nat} {R R' : H → List Value → α → Prop} {h g : H} {v : Value} {xs : List α} (s : SlR (fun b => b ≠ mb) w R h v xs) (k : Kept h g [mb]) (hR : ∀ cs,∀ x ∈ xs,R h cs x → R' g cs x) : SlR (fun b => b ≠ mb) w R' g v xs :=
 s.imp (fun _ _ q => q) hR fun b cs hb e => (cel_congr (k.2 b (cel_lt e) (by simpa using hb))).trans e
theorem WiM.off {mb : Nat} {h g : H} {cs : List Value} {o : Opv} (q : WiM mb h cs o) (k : Kept h g [mb]) : WiM mb g cs o := by
 obtain ⟨v,e,s⟩ := q
 exact ⟨v,e,slr_off s k fun _ _ _ q => q⟩
def AskV (h : H) (mb ib : Nat) (ph : Int) (ov : Value) (o : Opv) (th : Value) (v : Value) (h' : H) : Prop := v = .tuple ⟨[]⟩ ∧ Kept h h' [mb] ∧ SlR (fun b => b ≠ mb) 5 OpR h' ov [o] ∧ ∃ wv,MaR h' mb ib ph ov 0 true th wv ∧ SlR (fun b => b ≠ mb) 5 (WiM mb) h' wv [o] ∧ ∃ a,wv = .slice a 1 1
set_option maxHeartbeats 4000000 in
theorem ask_spec {mb ib n : Nat} {ph : Int} {ops th ov p : Value} {req : Int} {op : Bool} {o : Opv} (hM : MaR h mb ib ph ops req op th nl) (hS : SlR (fun b => b ≠ mb) 5 OpR h ov [o]) :
  Ans (cf (F + 2) 87 [.pointer (some ⟨mb,0,none⟩),.func (.func n) ⟨[p]⟩ ⟨[]⟩,ov] h) (AskV h mb ib ph ov o (.func (.func n) ⟨[p]⟩ ⟨[]⟩)) := by
 rw [cf_step (a := a87) rfl rfl (by simp [a87])]
 have e1 := fun (g : H) (hS : SlR T 5 OpR g ov [o]) => opsClone_spec (F := F) (h := g) hS
 generalize cf (F + 1) = c at *
 have hm := hM.m
 simp only [mM] at hm
 have sm := lt_of_get hm
 have hS0 := hS
 obtain ⟨b,oo,cc,cs,rfl,hc,hbm,hb,hi⟩ := hS.row (by simp)
 simp (disch := first|omega|(simp only [zS];first|done|omega)) [bB,a87,r87_0,hm,sm]
 show Ans (evD _ d87_1 _ _ (h.setIfInBounds mb (.cells (mM ph (.slice (some ⟨b,oo,none⟩) 1 cc) 0 true (.func (.func n) ⟨[p]⟩ ⟨[]⟩) nl (.iface 130 (.pointer (some ⟨ib,0,none⟩)))) 0 true [])) _ _) _
 have k1 : Kept h (h.setIfInBounds mb (.cells (mM ph (.slice (some ⟨b,oo,none⟩) 1 cc) 0 true (.func (.func n) ⟨[p]⟩ ⟨[]⟩) nl (.iface 130 (.pointer (some ⟨ib,0,none⟩)))) 0 true [])) [mb] := ⟨by simp,fun c hc hn => set_other (fun e => hn (by simp [e]))⟩
 have m1 : hget (h.setIfInBounds mb (.cells (mM ph (.slice (some ⟨b,oo,none⟩) 1 cc) 0 true (.func (.func n) ⟨[p]⟩ ⟨[]⟩) nl (.iface 130 (.pointer (some ⟨ib,0,none⟩)))) 0 true [])) mb = some (.cells (mM ph (.slice (some ⟨b,oo,none⟩) 1 cc) 0 true (.func (.func n) ⟨[p]⟩ ⟨[]⟩) nl (.iface 130 (.pointer (some ⟨ib,0,none⟩)))) 0 true []) := by rw [set_self rfl sm]
 have i1 : hget (h.setIfInBounds mb (.cells (mM ph (.slice (some ⟨b,oo,none⟩) 1 cc) 0 true (.func (.func n) ⟨[p]⟩ ⟨[]⟩) nl (.iface 130 (.pointer (some ⟨ib,0,none⟩)))) 0 true [])) ib = some (.cells [.pointer (some ⟨mb,0,none⟩)] 0 true []) := by rw [set_other (fun e => hM.ne e.symm)];exact hM.i
 have hS1 : SlR T 5 OpR (h.setIfInBounds mb (.cells (mM ph (.slice (some ⟨b,oo,none⟩) 1 cc) 0 true (.func (.func n) ⟨[p]⟩ ⟨[]⟩) nl (.iface 130 (.pointer (some ⟨ib,0,none⟩)))) 0 true [])) (.slice (some ⟨b,oo,none⟩) 1 cc) [o] := .inr ⟨b,oo,cc,cs,rfl,hc,trivial,(cel_congr (set_other (fun e => hbm e.symm))).trans hb,hi⟩
 have z1 : (h.setIfInBounds mb (.cells (mM ph (.slice (some ⟨b,oo,none⟩) 1 cc) 0 true (.func (.func n) ⟨[p]⟩ ⟨[]⟩) nl (.iface 130 (.pointer (some ⟨ib,0,none⟩)))) 0 true [])).size = h.size := by simp
 generalize h.setIfInBounds mb (.cells (mM ph (.slice (some ⟨b,oo,none⟩) 1 cc) 0 true (.func (.func n) ⟨[p]⟩ ⟨[]⟩) nl (.iface 130 (.pointer (some ⟨ib,0,none⟩)))) 0 true []) = g1 at *
 have m1' := m1
 simp only [mM] at m1'
 simp (disch := first|omega|(simp only [zS];first|done|omega)) [bB,d87_1,m1',blanks]
 refine Ans.nextCD (e1 _ hS1) ?_
 rintro u g2 ⟨k2,hB,a,rfl⟩
 have m2 := kget m1' k2
 have s2 := lt_of_get m2
 obtain ⟨v',g3,c1,c2,c3,c4⟩ := bld_put1 (h := g2) (ok := fun b => g2.size ≤ b) (w := 5) (bytes := 64) (R := WiN g1.size) (Bld.nil _ _ _ _) [vi 1,.slice a 1 1,se,vi 0,vi 0] (x := o) rfl (by simp) (by omega) (fun _ _ k _ _ _ q => q.kc k (by simp)) (fun h' k => ⟨_,rfl,hB.sl.kc k (by simp) fun _ _ _ q => q⟩)
 obtain ⟨a5,hv'⟩ := bld_is c2
 have m3 : hget g3 mb = _ := (c4 mb (lt_of_get m2) (by have := lt_of_get m2;omega)).trans m2
 have s3 := lt_of_get m3
 have i3 : hget g3 ib = _ := (c4 ib (lt_of_get (kget i1 k2)) (by have := lt_of_get (kget i1 k2);omega)).trans (kget i1 k2)
 simp (disch := first|omega|(simp only [zS];first|done|omega)) [bB,srcOf,isText,c1,blanks]
 rw [show v' = .slice a5 1 1 from hv'] at c2 ⊢
 simp (disch := first|omega|(simp only [zS];first|done|omega)) [bB,dk_go,chks_nil,chks_cons,chkA_nil,chkA_cons,chk1_no,chk1_yes,chkV_some,hAt_eq,hOf_some,hOf_none,sameV,sameL,sameCell,blanks,m3,m2,m1']
 have kA : ∀ X : Blk,Kept h (g3.setIfInBounds mb X) [mb] := fun X => (k1.trans ⟨by have := k2.1;omega,fun c hc hn => (c4 c (by have := k2.1;omega) (by have := k2.1;omega)).trans (k2.2 c hc (by simp))⟩).trans ⟨by simp,fun c hc hn => set_other (fun e => hn (by simp [e]))⟩
 have kS : ∀ X : Blk,KeptC g3 (g3.setIfInBounds mb X) [mb] := fun X => ⟨by simp,fun c hc hn => cel_congr (set_other (fun e => hn (by simp [e])))⟩
 refine Ans.of ⟨rfl,kA _,slr_off hS0 (kA _) fun _ _ _ q => q,.slice a5 1 1,⟨by rw [set_self rfl s3];rfl,by rw [set_other (fun e => hM.ne e.symm)];exact i3,hM.ne⟩,?_,a5,rfl⟩
 exact (c2.sl.kc (kS _) (by simp;omega) fun cs y _ q => q.kc (kS _) (by simp;omega)).imp (fun b _ q => by omega) (fun cs y _ q => by
  obtain ⟨v,e,q⟩ := q
  exact ⟨v,e,q.imp (fun b _ q => by omega) (fun _ _ _ q => q) fun _ _ _ e => e⟩) fun _ _ _ e => e
theorem told_spec {mb ib : Nat} {ph : Int} {ops th : Value} {req : Int} {op : Bool} {a : Option Addr} {n c : Nat} (hM : MaR h mb ib ph ops req op th (.slice a n c)) :
  Ans (cf (F + 1) 46 [.pointer (some ⟨mb,0,none⟩)] h) fun v h' => v = .slice a n c ∧ Kept h h' [mb] ∧ MaR h' mb ib ph ops req op th nl := by
 rw [cf_step (a := a46) rfl rfl (by simp [a46])]
 have hm := hM.m
 simp only [mM] at hm
 have sm := lt_of_get hm
 simp (disch := first|omega|(simp only [zS];first|done|omega)) [bB,a46,r46_0,r46_1,hm,r46_2,r46_3]
 exact Ans.of ⟨rfl,⟨by simp,fun c hc hn => set_other (fun e => hn (by simp [e]))⟩,⟨by rw [set_self rfl sm];rfl,by rw [set_other (fun e => hM.ne e.symm)];exact hM.i,hM.ne⟩⟩
theorem lives_spec' {mb ib : Nat} {ph : Int} {ops th w : Value} {req : Int} {op : Bool} (hM : MaR h mb ib ph ops req op th w) : Ans (cf (F + 1) 30 [.pointer (some ⟨mb,0,none⟩)] h) (IsT h) := by
 rw [cf_step (a := a30) rfl rfl (by simp [a30])]
 have hm := hM.m
 simp only [mM] at hm
 simp (disch := first|omega|(simp only [zS];first|done|omega)) [bB,a30,r30_0,r30_1,hm,isNilI]
 exact Ans.of ⟨rfl,rfl⟩
def opB : Opv := ⟨1,str47_108,⟨#[]⟩,0,0⟩
abbrev th88 (mb : Nat) : Value := .func (.func 88) ⟨[.pointer (some ⟨mb,0,none⟩)]⟩ ⟨[]⟩
def BasV (h : H) (mb ib : Nat) (v : Value) (h' : H) : Prop := v = .tuple ⟨[]⟩ ∧ Kept h h' [mb] ∧ ∃ ov wv,SlR (fun b => b ≠ mb) 5 OpR h' ov [opB] ∧ MaR h' mb ib 1 ov 0 true (th88 mb) wv ∧ SlR (fun b => b ≠ mb) 5 (WiM mb) h' wv [opB] ∧ ∃ a,wv = .slice a 1 1
set_option maxHeartbeats 2000000 in
theorem base_spec {mb ib : Nat} {ops th : Value} {req : Int} {op : Bool} (hM : MaR h mb ib 1 ops req op th nl) : Ans (cf (F + 3) 45 [.pointer (some ⟨mb,0,none⟩)] h) (BasV h mb ib) := by
 rw [cf_step (a := a45) rfl rfl (by simp [a45])]
 have e1 := fun (g : H) (ov : Value) (hM : MaR g mb ib 1 ops req op th nl) (hS : SlR (fun b => b ≠ mb) 5 OpR g ov [opB]) => ask_spec (F := F) (h := g) (n := 88) (p := .pointer (some ⟨mb,0,none⟩)) hM hS
 generalize cf (F + 2) = c at *
 have hm := hM.m
 simp only [mM] at hm
 have sm := lt_of_get hm
 simp (disch := first|omega|(simp only [zS];first|done|omega)) [bB,a45,r45_0,hm]
 have k1 := rowKept h (opC opB) 0 []
 have hb1 : hget (Ev.newRow h (opC opB) 0 []) h.size = some (.cells (opC opB) 0 true []) := by simp
 show Ans (evR _ r45_1 _ (Ev.newRow h (opC opB) 0 []) _ _ _) _
 have hM1 := hM.kept k1
 generalize Ev.newRow h (opC opB) 0 [] = g1 at *
 have hm1 := hM1.m
 simp only [mM] at hm1
 simp only [opC,opB] at hb1
 simp (disch := first|omega|(simp only [zS];first|done|omega)) [bB,r45_1,hm1,d45_3,hb1]
 show Ans (nextCE (c 87 [_,_,_] (Ev.newRow g1 (opC opB) 5 [])) _ _ _ _ _ _ _ _ _ _) _
 have k2 := rowKept g1 (opC opB) 5 []
 have hb2 : hget (Ev.newRow g1 (opC opB) 5 []) g1.size = some (.cells (opC opB) 5 true []) := by simp
 have s1 := lt_of_get hm1
 have hS : SlR (fun b => b ≠ mb) 5 OpR (Ev.newRow g1 (opC opB) 5 []) (.slice (some ⟨g1.size,0,none⟩) 1 1) [opB] := .inr ⟨g1.size,0,1,_,rfl,Nat.le_refl _,by omega,cel_of hb2,fun i y hy => by
  cases i with
  | succ i => simp at hy
  | zero => simp at hy;subst hy;exact ⟨by simp [opC],rfl⟩⟩
 refine Ans.nextCE (e1 _ _ (hM1.kept k2) hS) ?_
 rintro u g3 ⟨rfl,k3,hSo,wv,hMo,hW,a,rfl⟩
 simp (disch := first|omega|(simp only [zS];first|done|omega)) [bB]
 exact Ans.of ⟨rfl,((k1.trans k2).of_nil).trans k3,_,_,hSo,hMo,hW,a,rfl⟩
end Go.Proofs.YtalamcchkkdelaaGreatDoor
end
section
set_option maxRecDepth 100000
namespace Go.Proofs.YtalamcchkkdelaaGreatDoor
open Go.Ev
variable {F : Nat} {h : H}
def LkV (h : H) (mb ib : Nat) (o : Opv) (req : Int) (th : Value) (v : Value) (h' : H) : Prop := Kept h h' [mb] ∧ ∃ ov,SlR (fun b => b ≠ mb) 5 OpR h' ov [o] ∧ MaR h' mb ib 1 ov req true th nl ∧ SlR (fun b => b ≠ mb) 5 (WiM mb) h' v [o]
set_option maxHeartbeats 4000000 in
theorem begin_lock {mb ib : Nat} (hM : MaR h mb ib 0 nl 0 false .nilFunc nl) : Ans (cf (F + 4) 20 [.pointer (some ⟨mb,0,none⟩)] h) (LkV h mb ib opB 0 (th88 mb)) := by
 rw [cf_step (a := a20) rfl rfl (by simp [a20])]
 have e1 := lives_spec' (F := F + 2) hM
 have e2 := fun (g : H) (hM : MaR g mb ib 1 nl 0 false .nilFunc nl) => base_spec (F := F) hM
 have e3 := fun (g : H) (ov th : Value) (a : Option Addr) (n c : Nat) (hM : MaR g mb ib 1 ov 0 true th (.slice a n c)) => told_spec (F := F + 2) hM
 generalize cf (F + 3) = c at *
 have hm := hM.m
 simp only [mM] at hm
 have sm := lt_of_get hm
 simp (disch := first|omega|(simp only [zS];first|done|omega)) [bB,a20,r20_0,r20_1]
 refine Ans.nextC e1 ?_
 rintro u g ⟨rfl,rfl⟩
 simp (disch := first|omega|(simp only [zS];first|done|omega)) [bB,aUn,hm,r20_3]
 have k1 := rowKept g [vi 1,se,vi 0,vi 0,nl] 0 []
 have hb1 : hget (Ev.newRow g [vi 1,se,vi 0,vi 0,nl] 0 []) g.size = some (.cells [vi 1,se,vi 0,vi 0,nl] 0 true []) := by simp
 show Ans (evR _ r20_4 _ (Ev.newRow g [vi 1,se,vi 0,vi 0,nl] 0 []) _ _ _) _
 have hm1 := kget hm k1
 have i1 := kget hM.i k1
 generalize Ev.newRow g [vi 1,se,vi 0,vi 0,nl] 0 [] = g1 at *
 have sm1 := lt_of_get hm1
 simp (disch := first|omega|(simp only [zS];first|done|omega)) [bB,r20_4,hm1,aUn,r20_6,hb1]
 have k2 : ∀ X : Blk,Kept g1 (g1.setIfInBounds mb X) [mb] := fun X => ⟨by simp,fun c hc hn => set_other (fun e => hn (by simp [e]))⟩
 have hM2 : MaR (g1.setIfInBounds mb (.cells (mM 1 nl 0 false .nilFunc nl (.iface 130 (.pointer (some ⟨ib,0,none⟩)))) 0 true [])) mb ib 1 nl 0 false .nilFunc nl := ⟨by rw [set_self rfl sm1],by rw [set_other (fun e => hM.ne e.symm)];exact i1,hM.ne⟩
 show Ans (evR _ r20_7 _ (g1.setIfInBounds mb (.cells (mM 1 nl 0 false .nilFunc nl (.iface 130 (.pointer (some ⟨ib,0,none⟩)))) 0 true [])) _ _ _) _
 have k2 := k2 (.cells (mM 1 nl 0 false .nilFunc nl (.iface 130 (.pointer (some ⟨ib,0,none⟩)))) 0 true [])
 generalize g1.setIfInBounds mb (.cells (mM 1 nl 0 false .nilFunc nl (.iface 130 (.pointer (some ⟨ib,0,none⟩)))) 0 true []) = g2 at *
 simp (disch := first|omega|(simp only [zS];first|done|omega)) [bB,r20_7]
 refine Ans.nextC (e2 _ hM2) ?_
 rintro u g3 ⟨rfl,k3,ov,wv,hS,hM3,hW,a,rfl⟩
 simp (disch := first|omega|(simp only [zS];first|done|omega)) [bB,r20_8]
 refine Ans.nextC (e3 _ _ _ _ _ _ hM3) ?_
 rintro u g4 ⟨rfl,k4,hM4⟩
 simp (disch := first|omega|(simp only [zS];first|done|omega)) [bB]
 exact Ans.of ⟨((k1.of_nil.trans k2).trans k3).trans k4,ov,slr_off hS k4 fun _ _ _ q => q,hM4,slr_off hW k4 fun _ _ _ q => q.off k4⟩
theorem opsEq_spec {ok ok' : Nat → Prop} {v w : Value} {o : Opv} (hS : SlR ok 5 OpR h v [o]) (hT : SlR ok' 5 OpR h w [o]) (hF : 10 ≤ F) : Ans (cf (F + 1) 49 [v,w] h) (IsT h) := by
 rw [cf_step (a := a49) rfl rfl (by simp [a49])]
 obtain ⟨b,oo,cc,cs,es,lv,an,rfl,hg,hl,hr⟩ := op_at hS (i := 0) rfl
 obtain ⟨b',oo',cc',cs',es',lv',an',rfl,hg',hl',hr'⟩ := op_at hT (i := 0) rfl
 rw [Nat.zero_mul,Nat.add_zero] at hl hr hl' hr'
 simp only [opC] at hr hr'
 obtain ⟨F',rfl⟩ : ∃ F',F = F' + 2 := ⟨F - 2,by omega⟩
 have q4 : F' + 2 = F' + 1 + 1 := rfl
 simp (disch := first|omega|(simp only [zS];first|done|omega)) [bB,a49,r49_0,r49_1,r49_3]
 rw [loopK_succ]
 simp (disch := first|omega|(simp only [zS];first|done|omega)) [bB,l49_9,r49_4,r49_5,d49_6,hg,hl,hr,hg',hl',hr',ba_self,r49_8,show IntKind.i64.wrap 1 = 1 from rfl]
 rw [loopK_succ]
 simp (disch := first|omega|(simp only [zS];first|done|omega)) [bB,l49_9,r49_4,r49_10]
 exact Ans.of ⟨rfl,rfl⟩
set_option maxHeartbeats 4000000 in
theorem hear_call {mb ib : Nat} {ov tv : Value} {th : Value} (hM : MaR h mb ib 1 ov 0 true th nl) (hS : SlR (fun b => b ≠ mb) 5 OpR h ov [opB]) (hT : SlR T 5 OpR h tv [opB]) (hF : 10 ≤ F) :
  Ans (cf (F + 2) 21 [.pointer (some ⟨mb,0,none⟩),.agg ⟨tdC { tdZ with kind := 1,a4 := 1 } tv nl nl nl nl⟩] h) fun v h' => v = nl ∧ Kept h h' [mb] ∧ MaR h' mb ib 1 ov 1 true th nl ∧ SlR (fun b => b ≠ mb) 5 OpR h' ov [opB] := by
 rw [cf_step (a := a21) rfl rfl (by simp [a21])]
 have e1 := fun (g : H) (hM : MaR g mb ib 1 ov 0 true th nl) => lives_spec' (F := F) hM
 have e2 := fun (g : H) (v w : Value) (hS : SlR (fun b => b ≠ mb) 5 OpR g v [opB]) (hT : SlR T 5 OpR g w [opB]) => opsEq_spec (F := F) hT hS hF
 have e3 := fun (g : H) (a : Option Addr) (n c : Nat) (hM : MaR g mb ib 1 ov 1 true th (.slice a n c)) => told_spec (F := F) hM
 generalize cf (F + 1) = c at *
 obtain ⟨t1,t2,t3,rfl⟩ := sl_is hT
 have k1 := rowKept h (tdC { tdZ with kind := 1,a4 := 1 } (.slice t1 t2 t3) nl nl nl nl) 0 []
 have hb1 : hget (Ev.newRow h (tdC { tdZ with kind := 1,a4 := 1 } (.slice t1 t2 t3) nl nl nl nl) 0 []) h.size = some (.cells (tdC { tdZ with kind := 1,a4 := 1 } (.slice t1 t2 t3) nl nl nl nl) 0 true []) := by simp
 have hM1 := hM.kept k1
 have hS1 := slr_kept hS k1 fun _ _ _ q => q
 have hT1 := slr_kept hT k1 fun _ _ _ q => q
 simp (disch := first|omega|(simp only [zS];first|done|omega)) [bB,a21,r21_0]
 generalize Ev.newRow h (tdC { tdZ with kind := 1,a4 := 1 } (.slice t1 t2 t3) nl nl nl nl) 0 [] = g1 at *
 have hm := hM1.m
 simp only [mM] at hm
 simp only [tdC,tdZ] at hb1
 have sm := lt_of_get hm
 simp (disch := first|omega|(simp only [zS];first|done|omega)) [bB,r21_1]
 refine Ans.nextC (e1 _ hM1) ?_
 rintro u g2 ⟨rfl,rfl⟩
 obtain ⟨o1,o2,o3,rfl⟩ := sl_is hS
 simp (disch := first|omega|(simp only [zS];first|done|omega)) [bB,aUn,r21_3,hm,r21_4,hb1,r21_5,r21_6,r21_8,r21_10,r21_12,r21_13,d21_14]
 refine Ans.nextCE (e2 _ _ _ hS1 hT1) ?_
 rintro u g3 ⟨rfl,rfl⟩
 simp (disch := first|omega|(simp only [zS];first|done|omega)) [bB,r21_15,hm,hb1]
 have hM3 : MaR (g3.setIfInBounds mb (.cells (mM 1 (.slice o1 o2 o3) 1 true th nl (.iface 130 (.pointer (some ⟨ib,0,none⟩)))) 0 true [])) mb ib 1 (.slice o1 o2 o3) 1 true th nl := ⟨by rw [set_self rfl sm],by rw [set_other (fun e => hM.ne e.symm)];exact hM1.i,hM.ne⟩
 show Ans (evR _ r21_25 _ (g3.setIfInBounds mb (.cells (mM 1 (.slice o1 o2 o3) 1 true th nl (.iface 130 (.pointer (some ⟨ib,0,none⟩)))) 0 true [])) _ _ _) _
 have k2 : Kept g3 (g3.setIfInBounds mb (.cells (mM 1 (.slice o1 o2 o3) 1 true th nl (.iface 130 (.pointer (some ⟨ib,0,none⟩)))) 0 true [])) [mb] := ⟨by simp,fun c hc hn => set_other (fun e => hn (by simp [e]))⟩
 generalize g3.setIfInBounds mb (.cells (mM 1 (.slice o1 o2 o3) 1 true th nl (.iface 130 (.pointer (some ⟨ib,0,none⟩)))) 0 true []) = g4 at *
 simp (disch := first|omega|(simp only [zS];first|done|omega)) [bB,r21_25]
 refine Ans.nextC (e3 _ _ _ _ hM3) ?_
 rintro u g5 ⟨rfl,k5,hM5⟩
 simp (disch := first|omega|(simp only [zS];first|done|omega)) [bB]
 have hS4 : SlR (fun b => b ≠ mb) 5 OpR g4 (.slice o1 o2 o3) [opB] := slr_off hS1 k2 fun _ _ _ q => q
 exact Ans.of ⟨rfl,(k1.of_nil.trans k2).trans k5,hM5,slr_off hS4 k5 fun _ _ _ q => q⟩
end Go.Proofs.YtalamcchkkdelaaGreatDoor
end
section
set_option maxRecDepth 100000
namespace Go.Proofs.YtalamcchkkdelaaGreatDoor
open Go.Ev
variable {F : Nat} {h : H}
def opL : Opv := ⟨1,belowL lockW,str120,0,3⟩
abbrev th237 (ib : Nat) : Value := .func (.func 237) ⟨[.pointer (some ⟨ib,0,none⟩)]⟩ ⟨[]⟩
theorem at_spec {mb ib : Nat} {ph : Int} {ops th w : Value} {req : Int} {op : Bool} (G : Glo h) (hM : MaR h mb ib ph ops req op th w) (hF : 100 ≤ F) : Ans (cf (F + 5) 137 [.pointer (some ⟨mb,0,none⟩),.string lockW] h) (RetV (.string (belowL lockW)) h) := by
 rw [cf_step (a := a137) rfl rfl (by simp [a137])]
 have e1 := fun (g : H) (G : Glo g) (v : Value) (hS : SlR T 1 TxR g v [lockW]) => join_l (F := F) (h := g) G nm_lock hS (by decide) hF
 generalize cf (F + 4) = c at *
 have hm := hM.m
 simp only [mM] at hm
 have k1 := rowKept h [.string lockW] 1 []
 have b1 : hget (Ev.newRow h [.string lockW] 1 []) h.size = some (.cells [.string lockW] 1 true []) := by simp
 have hS1 : SlR T 1 TxR (Ev.newRow h [.string lockW] 1 []) (.slice (some ⟨h.size,0,none⟩) 1 1) [lockW] := .inr ⟨h.size,0,1,_,rfl,Nat.le_refl _,trivial,cel_of b1,fun i y hy => by
  cases i with
  | succ i => simp at hy
  | zero => simp at hy;subst hy;exact ⟨by simp,rfl⟩⟩
 simp (disch := first|omega|(simp only [zS];first|done|omega)) [bB,a137,r137_0,r137_1,hm]
 refine Ans.nextC (e1 _ (G.kept k1) _ hS1) ?_
 rintro u g ⟨k2,rfl⟩
 simp (disch := first|omega|(simp only [zS];first|done|omega)) [bB,r137_2]
 exact Ans.of ⟨k1.trans k2,rfl⟩
def OwnV (h : H) (mb ib : Nat) (v : Value) (h' : H) : Prop := v = .tuple ⟨[]⟩ ∧ Kept h h' [mb] ∧ ∃ ov wv,SlR (fun b => b ≠ mb) 5 OpR h' ov [opL] ∧ MaR h' mb ib 1 ov 0 true (th237 ib) wv ∧ SlR (fun b => b ≠ mb) 5 (WiM mb) h' wv [opL] ∧ ∃ a,wv = .slice a 1 1
set_option maxHeartbeats 4000000 in
theorem makesOwn_spec {mb ib : Nat} {ops th : Value} {req : Int} {op : Bool} (G : Glo h) (hM : MaR h mb ib 1 ops req op th nl) (hF : 100 ≤ F) : Ans (cf (F + 6) 236 [.pointer (some ⟨mb,0,none⟩),th237 ib] h) (OwnV h mb ib) := by
 rw [cf_step (a := a236) rfl rfl (by simp [a236])]
 have e1 := at_spec (F := F) G hM hF
 have e2 := fun (g : H) (ov : Value) (hM : MaR g mb ib 1 ops req op th nl) (hS : SlR (fun b => b ≠ mb) 5 OpR g ov [opL]) => ask_spec (F := F + 3) (h := g) (n := 237) (p := .pointer (some ⟨ib,0,none⟩)) hM hS
 generalize cf (F + 5) = c at *
 have hm := hM.m
 simp only [mM] at hm
 simp (disch := first|omega|(simp only [zS];first|done|omega)) [bB,a236,d236_0,hm,blanks]
 refine Ans.nextCD e1 ?_
 rintro u g1 ⟨k1,rfl⟩
 have hM1 := hM.kept k1
 have hm1 := hM1.m
 simp only [mM] at hm1
 have s1 := lt_of_get hm1
 have k2 := rowKept g1 (opC opL) 5 []
 have hb2 : hget (Ev.newRow g1 (opC opL) 5 []) g1.size = some (.cells (opC opL) 5 true []) := by simp
 have hS : SlR (fun b => b ≠ mb) 5 OpR (Ev.newRow g1 (opC opL) 5 []) (.slice (some ⟨g1.size,0,none⟩) 1 1) [opL] := .inr ⟨g1.size,0,1,_,rfl,Nat.le_refl _,by omega,cel_of hb2,fun i y hy => by
  cases i with
  | succ i => simp at hy
  | zero => simp at hy;subst hy;exact ⟨by simp [opC],rfl⟩⟩
 simp (disch := first|omega|(simp only [zS];first|done|omega)) [bB,hm1,blanks]
 refine Ans.nextCD (e2 _ _ (hM1.kept k2) hS) ?_
 rintro u g3 ⟨rfl,k3,hSo,wv,hMo,hW,a,rfl⟩
 simp (disch := first|omega|(simp only [zS];first|done|omega)) [bB,dk_go,chks_nil,chks_cons,chkA_nil,chkA_cons,chk1_no,chk1_yes,chkV_some,hAt_eq,hOf_some,hOf_none,sameV,sameL,sameCell,blanks,hm,hm1,ba_self]
 exact Ans.of ⟨rfl,(k1.trans k2).of_nil.trans k3,_,_,hSo,hMo,hW,a,rfl⟩
theorem start_spec {mb ib : Nat} {ops th : Value} {req : Int} {op : Bool} (G : Glo h) (hM : MaR h mb ib 1 ops req op th nl) (hF : 100 ≤ F) : Ans (cf (F + 7) 234 [.pointer (some ⟨ib,0,none⟩)] h) (OwnV h mb ib) := by
 rw [cf_step (a := a234) rfl rfl (by simp [a234])]
 have e1 := makesOwn_spec (F := F) G hM hF
 generalize cf (F + 6) = c at *
 have hi := hM.i
 simp (disch := first|omega|(simp only [zS];first|done|omega)) [bB,a234,r234_0,hi]
 refine Ans.nextC e1 ?_
 rintro u g ⟨rfl,q⟩
 simp (disch := first|omega|(simp only [zS];first|done|omega)) [bB]
 exact Ans.of ⟨rfl,q⟩
theorem based_spec {mb ib : Nat} {ops th : Value} {req : Int} {op : Bool} (G : Glo h) (hM : MaR h mb ib 1 ops req op th nl) (hF : 100 ≤ F) : Ans (cf (F + 8) 88 [.pointer (some ⟨mb,0,none⟩),.agg ⟨[vi 0,vi 41,vi 0,nl]⟩] h) (OwnV h mb ib) := by
 rw [cf_step (a := a88) rfl rfl (by simp [a88])]
 have k1 := rowKept h [vi 0,vi 41,vi 0,nl] 0 []
 have hb1 : hget (Ev.newRow h [vi 0,vi 41,vi 0,nl] 0 []) h.size = some (.cells [vi 0,vi 41,vi 0,nl] 0 true []) := by simp
 have hM1 := hM.kept k1
 have e1 := start_spec (F := F) (G.kept k1) hM1 hF
 generalize cf (F + 7) = c at *
 have hm1 := hM1.m
 simp only [mM] at hm1
 simp (disch := first|omega|(simp only [zS];first|done|omega)) [bB,a88,r88_0]
 generalize Ev.newRow h [vi 0,vi 41,vi 0,nl] 0 [] = g1 at *
 simp (disch := first|omega|(simp only [zS];first|done|omega)) [bB,r88_1,hb1,r88_2,r88_3,r88_5,hm1]
 rw [callI_at (g := 234) (by decide)]
 refine Ans.nextC e1 ?_
 rintro u g ⟨rfl,k2,q⟩
 simp (disch := first|omega|(simp only [zS];first|done|omega)) [bB]
 exact Ans.of ⟨rfl,k1.of_nil.trans k2,q⟩
end Go.Proofs.YtalamcchkkdelaaGreatDoor
end
section
set_option maxRecDepth 100000
namespace Go.Proofs.YtalamcchkkdelaaGreatDoor
open Go.Ev
variable {F : Nat} {h : H}
set_option maxHeartbeats 4000000 in
theorem answered_spec {mb ib : Nat} {ov : Value} (G : Glo h) (hM : MaR h mb ib 1 ov 1 true (th88 mb) nl) (hS : SlR (fun b => b ≠ mb) 5 OpR h ov [opB]) (hg : 2 ≤ mb) (hF : 100 ≤ F) : Ans (cf (F + 9) 50 [.pointer (some ⟨mb,0,none⟩),.agg ⟨[vi 0,vi 41,vi 0,nl]⟩] h) (OwnV h mb ib) := by
 rw [cf_step (a := a50) rfl rfl (by simp [a50])]
 have k1 := rowKept h [vi 0,vi 41,vi 0,nl] 0 []
 have hb1 : hget (Ev.newRow h [vi 0,vi 41,vi 0,nl] 0 []) h.size = some (.cells [vi 0,vi 41,vi 0,nl] 0 true []) := by simp
 have hM1 := hM.kept k1
 have G1 := G.kept k1
 have e1 := fun (g : H) (G : Glo g) (hM : MaR g mb ib 1 ov 1 false .nilFunc nl) => based_spec (F := F) G hM hF
 generalize cf (F + 8) = c at *
 have hm1 := hM1.m
 obtain ⟨o1,o2,o3,rfl⟩ := sl_is hS
 simp only [mM] at hm1
 simp (disch := first|omega|(simp only [zS];first|done|omega)) [bB,a50,r50_0]
 generalize Ev.newRow h [vi 0,vi 41,vi 0,nl] 0 [] = g1 at *
 have sm := lt_of_get hm1
 have sb := lt_of_get hb1
 have hne : ¬ mb = h.size := by have := lt_of_get hM.m;omega
 simp (disch := first|omega|(simp only [zS];first|done|omega)) [bB,d50_1,hm1,r50_2]
 have hM2 : MaR (g1.setIfInBounds mb (.cells (mM 1 (.slice o1 o2 o3) 1 false .nilFunc nl (.iface 130 (.pointer (some ⟨ib,0,none⟩)))) 0 true [])) mb ib 1 (.slice o1 o2 o3) 1 false .nilFunc nl := ⟨by rw [set_self rfl sm],by rw [set_other (fun e => hM.ne e.symm)];exact hM1.i,hM.ne⟩
 show Ans (evR _ r50_3 _ (g1.setIfInBounds mb (.cells (mM 1 (.slice o1 o2 o3) 1 false .nilFunc nl (.iface 130 (.pointer (some ⟨ib,0,none⟩)))) 0 true [])) _ _ _) _
 have k2 : Kept g1 (g1.setIfInBounds mb (.cells (mM 1 (.slice o1 o2 o3) 1 false .nilFunc nl (.iface 130 (.pointer (some ⟨ib,0,none⟩)))) 0 true [])) [mb] := ⟨by simp,fun c hc hn => set_other (fun e => hn (by simp [e]))⟩
 have hb2 := (k2.get (b := h.size) sb (by simp;omega)).trans hb1
 have G2 : Glo (g1.setIfInBounds mb (.cells (mM 1 (.slice o1 o2 o3) 1 false .nilFunc nl (.iface 130 (.pointer (some ⟨ib,0,none⟩)))) 0 true [])) := by
  obtain ⟨⟨es,lv,an,h0⟩,⟨m,cs,es',lv',an',h1⟩⟩ := G1
  exact ⟨⟨es,lv,an,(k2.get (b := 0) (lt_of_get h0) (by simp;omega)).trans h0⟩,⟨m,cs,es',lv',an',(k2.get (b := 1) (lt_of_get h1) (by simp;omega)).trans h1⟩⟩
 generalize g1.setIfInBounds mb (.cells (mM 1 (.slice o1 o2 o3) 1 false .nilFunc nl (.iface 130 (.pointer (some ⟨ib,0,none⟩)))) 0 true []) = g2 at *
 have hm2 := hM2.m
 simp only [mM] at hm2
 simp (disch := first|omega|(simp only [zS];first|done|omega)) [bB,r50_3,hb2,d50_5,r50_7,hm2,r50_9,callV_rec]
 refine Ans.nextC (e1 _ G2 hM2) ?_
 rintro u g ⟨rfl,k3,q⟩
 simp (disch := first|omega|(simp only [zS];first|done|omega)) [bB]
 exact Ans.of ⟨rfl,(k1.of_nil.trans k2).trans k3,q⟩
set_option maxHeartbeats 4000000 in
theorem hear_reply {mb ib : Nat} {ov : Value} (G : Glo h) (hM : MaR h mb ib 1 ov 1 true (th88 mb) nl) (hS : SlR (fun b => b ≠ mb) 5 OpR h ov [opB]) (hg : 2 ≤ mb) (hF : 100 ≤ F) :
  Ans (cf (F + 10) 21 [.pointer (some ⟨mb,0,none⟩),.agg ⟨tdC { tdZ with kind := 2,a4 := 1,r1 := 41 } nl nl nl nl nl⟩] h) (LkV h mb ib opL 0 (th237 ib)) := by
 rw [cf_step (a := a21) rfl rfl (by simp [a21])]
 have e1 := fun (g : H) (hM : MaR g mb ib 1 ov 1 true (th88 mb) nl) => lives_spec' (F := F + 8) hM
 have e2 := fun (g : H) (G : Glo g) (hM : MaR g mb ib 1 ov 1 true (th88 mb) nl) (hS : SlR (fun b => b ≠ mb) 5 OpR g ov [opB]) => answered_spec (F := F) G hM hS hg hF
 have e3 := fun (g : H) (ov th : Value) (a : Option Addr) (n c : Nat) (hM : MaR g mb ib 1 ov 0 true th (.slice a n c)) => told_spec (F := F + 8) hM
 generalize cf (F + 9) = c at *
 have k1 := rowKept h (tdC { tdZ with kind := 2,a4 := 1,r1 := 41 } nl nl nl nl nl) 0 []
 have hb1 : hget (Ev.newRow h (tdC { tdZ with kind := 2,a4 := 1,r1 := 41 } nl nl nl nl nl) 0 []) h.size = some (.cells (tdC { tdZ with kind := 2,a4 := 1,r1 := 41 } nl nl nl nl nl) 0 true []) := by simp
 have hM1 := hM.kept k1
 have G1 := G.kept k1
 have hS1 := slr_kept hS k1 fun _ _ _ q => q
 simp (disch := first|omega|(simp only [zS];first|done|omega)) [bB,a21,r21_0]
 generalize Ev.newRow h (tdC { tdZ with kind := 2,a4 := 1,r1 := 41 } nl nl nl nl nl) 0 [] = g1 at *
 have hm := hM1.m
 simp only [mM] at hm
 simp only [tdC,tdZ] at hb1
 simp (disch := first|omega|(simp only [zS];first|done|omega)) [bB,r21_1]
 refine Ans.nextC (e1 _ hM1) ?_
 rintro u g2 ⟨rfl,rfl⟩
 simp (disch := first|omega|(simp only [zS];first|done|omega)) [bB,aUn,r21_3,hm,r21_4,hb1,r21_5,r21_6,r21_8,r21_10,r21_12,r21_13,r21_16,d21_17,r21_18]
 refine Ans.nextC (e2 _ G1 hM1 hS1) ?_
 rintro u g3 ⟨rfl,k3,ov',wv,hS3,hM3,hW,a,rfl⟩
 simp (disch := first|omega|(simp only [zS];first|done|omega)) [bB,r21_25]
 refine Ans.nextC (e3 _ _ _ _ _ _ hM3) ?_
 rintro u g4 ⟨rfl,k4,hM4⟩
 simp (disch := first|omega|(simp only [zS];first|done|omega)) [bB]
 exact Ans.of ⟨(k1.of_nil.trans k3).trans k4,ov',slr_off hS3 k4 fun _ _ _ q => q,hM4,slr_off hW k4 fun _ _ _ q => q.off k4⟩
theorem textsClone_nl : Ans (cf (F + 1) 31 [nl] h) (RetV nl h) := by
 rw [cf_step (a := a31) rfl rfl (by simp [a31])]
 simp (disch := first|omega|(simp only [zS];first|done|omega)) [bB,a31,r31_0,r31_1,r31_2]
 exact Ans.of ⟨Kept.refl _ _,rfl⟩
theorem sight_lock {mb ib : Nat} {ov th w : Value} {req : Int} {op : Bool} {ph : Int} (hM : MaR h mb ib ph ov req op th w) : Ans (cf (F + 2) 11 [.pointer (some ⟨mb,0,none⟩)] h) (RetV (.agg ⟨[vi ph,se,vi 0,vi 0,nl]⟩) h) := by
 rw [cf_step (a := a11) rfl rfl (by simp [a11])]
 have k1 := rowKept h [vi 0,.string ⟨#[]⟩,vi 0,vi 0,.slice none 0 0] 0 []
 have hb : hget (Ev.newRow h [vi 0,.string ⟨#[]⟩,vi 0,vi 0,.slice none 0 0] 0 []) h.size = some (.cells [vi 0,.string ⟨#[]⟩,vi 0,vi 0,.slice none 0 0] 0 true []) := by simp
 have hM1 := hM.kept k1
 have e1 := lives_spec' (F := F) hM1
 have e2 := fun (g : H) => textsClone_nl (F := F) (h := g)
 generalize cf (F + 1) = c at *
 simp (disch := first|omega|(simp only [zS];first|done|omega)) [bB,a11,r11_0]
 generalize Ev.newRow h [vi 0,.string ⟨#[]⟩,vi 0,vi 0,.slice none 0 0] 0 [] = g1 at *
 simp (disch := first|omega|(simp only [zS];first|done|omega)) [bB,r11_1]
 refine Ans.nextC e1 ?_
 rintro v h' ⟨rfl,rfl⟩
 have hm1 := hM1.m
 simp only [mM] at hm1
 have k2 := rowKept h' [vi ph,se,vi 0,vi 0,nl] 0 []
 have hb2 : hget (Ev.newRow h' [vi ph,se,vi 0,vi 0,nl] 0 []) h'.size = some (.cells [vi ph,se,vi 0,vi 0,nl] 0 true []) := by simp
 have hbr := kget hb k2
 simp (disch := first|omega|(simp only [zS];first|done|omega)) [bB,aUn,r11_3,hm1]
 show Ans (evR _ r11_4 _ (Ev.newRow h' [vi ph,se,vi 0,vi 0,nl] 0 []) _ _ _) _
 have hne : ¬ h'.size = h.size := by have := lt_of_get hb;omega
 generalize Ev.newRow h' [vi ph,se,vi 0,vi 0,nl] 0 [] = g2 at *
 simp (disch := first|omega|(simp only [zS];first|done|omega)) [bB,r11_4,hb2]
 refine Ans.nextC (e2 _) ?_
 rintro v g3 ⟨k3,rfl⟩
 have hb3 := kget hb2 k3
 have hbr3 := kget hbr k3
 have s3 := lt_of_get hb3
 have sr3 := lt_of_get hbr3
 simp (disch := first|omega|(simp only [zS];first|done|omega)) [bB,hb3,r11_5,hbr3]
 exact Ans.of ⟨kept_set (kept_set ((k1.trans k2).trans k3) k1.1) (Nat.le_refl _),rfl⟩
end Go.Proofs.YtalamcchkkdelaaGreatDoor
end
section
set_option maxRecDepth 100000
namespace Go.Proofs.YtalamcchkkdelaaGreatDoor
open Go.Ev
variable {F : Nat} {h : H}
theorem kept_new {h g g' : H} {mb : Nat} (k : Kept h g []) (k' : Kept g g' [mb]) (hm : h.size ≤ mb) : Kept h g' [] :=
 ⟨Nat.le_trans k.1 k'.1,fun b hb hn => (k'.2 b (Nat.lt_of_lt_of_le hb k.1) (by simp;omega)).trans (k.2 b hb hn)⟩
theorem wi_at {mb : Nat} {g : H} {v : Value} {o : Opv} (s : SlR (fun b => b ≠ mb) 5 (WiM mb) g v [o]) :
  ∃ b oo c cs es lv an w,v = .slice (some ⟨b,oo,none⟩) 1 c ∧ hget g b = some (.cells cs es lv an) ∧ oo + 5 ≤ cs.length ∧ (cs.drop oo).take 1 = [vi 1] ∧ (cs.drop (oo + 1)).take 1 = [w] ∧ SlR (fun b => b ≠ mb) 5 OpR g w [o] := by
 obtain ⟨b,oo,c,cs,es,lv,an,e,_,hg,hl,w,hr,hw⟩ := s.at' (i := 0) rfl
 rw [Nat.zero_mul,Nat.add_zero] at hl hr
 exact ⟨b,oo,c,cs,es,lv,an,w,e,hg,hl,take1_of hr,by
  have := take_sub hr 1 1 (by decide)
  simpa using this,hw⟩
theorem op0_at {ok : Nat → Prop} {g : H} {v : Value} {x : Opv} (s : SlR ok 5 OpR g v [x]) :
  ∃ b o c cs es lv an,v = .slice (some ⟨b,o,none⟩) 1 c ∧ hget g b = some (.cells cs es lv an) ∧ o + 5 ≤ cs.length ∧ (cs.drop o).take 5 = opC x ∧ (cs.drop (o + 1)).take 1 = [.string x.place] := by
 obtain ⟨b,o,c,cs,es,lv,an,e,hg,hl,hr⟩ := op_at s (i := 0) rfl
 rw [Nat.zero_mul,Nat.add_zero] at hl hr
 exact ⟨b,o,c,cs,es,lv,an,e,hg,hl,hr,by
  have := take_sub hr 1 1 (by decide)
  simpa [opC] using this⟩
theorem belowL_lock : belowL lockW = strL93745279 := bs_inj (by decide)
set_option maxHeartbeats 8000000 in
theorem begins_spec (G : Glo h) (h2 : 2 ≤ h.size) (hF : 100 ≤ F) : Ans (cf (F + 11) 7 [] h) (TrV h) := by
 rw [cf_step (a := a7) rfl rfl (by simp [a7])]
 have e1 := new_spec (F := F + 5) G (by omega)
 have e2 := fun (g : H) => new_bad (F := F + 5) (h := g) (by omega)
 have e3 := fun (g : H) (mb ib : Nat) (hM : MaR g mb ib 0 nl 0 false .nilFunc nl) => begin_lock (F := F + 6) hM
 have e4 := fun (g : H) (mb ib : Nat) (ov tv th : Value) (hM : MaR g mb ib 1 ov 0 true th nl) (hS : SlR (fun b => b ≠ mb) 5 OpR g ov [opB]) (hT : SlR T 5 OpR g tv [opB]) => hear_call (F := F + 8) hM hS hT (by omega)
 have e5 := fun (g : H) (mb ib : Nat) (ov : Value) (G : Glo g) (hM : MaR g mb ib 1 ov 1 true (th88 mb) nl) (hS : SlR (fun b => b ≠ mb) 5 OpR g ov [opB]) (hg : 2 ≤ mb) => hear_reply (F := F) G hM hS hg hF
 have e6 := fun (g : H) (mb ib : Nat) (ov th w : Value) (req : Int) (op : Bool) (ph : Int) (hM : MaR g mb ib ph ov req op th w) => sight_lock (F := F + 8) hM
 generalize cf (F + 10) = c at *
 simp (disch := first|omega|(simp only [zS];first|done|omega)) [bB,a7,r7_0,r7_1]
 refine Ans.nextC e1 ?_
 rintro u g1 ⟨k1,mb,ib,rfl,hmb,hib,hM1⟩
 simp (disch := first|omega|(simp only [zS];first|done|omega)) [bB,r7_2]
 refine Ans.nextC (e2 _) ?_
 rintro u g2 ⟨k2,rfl⟩
 have hM2 := hM1.kept k2
 simp (disch := first|omega|(simp only [zS];first|done|omega)) [bB,r7_3,r7_5]
 refine Ans.nextC (e3 _ _ _ hM2) ?_
 rintro l g3 ⟨k3,ov,hS3,hM3,hW3⟩
 have kh3 := kept_new (k1.trans k2) k3 hmb
 obtain ⟨b,oo,cc,cs,es,lv,an,w,rfl,hg,hl,p0,p1,hw⟩ := wi_at hW3
 obtain ⟨b',oo',cc',cs',es',lv',an',rfl,hg',hl',q0,q1⟩ := op0_at hw
 have l0 : oo + 1 ≤ cs.length := by omega
 have l1 : oo + 1 + 1 ≤ cs.length := by omega
 have l0' : oo' + 1 + 1 ≤ cs'.length := by omega
 simp only [opB] at q1
 simp (disch := first|omega|(simp only [zS];first|done|omega)) [bB,r7_6,hg,l0,l1,p0,p1,hg',l0',q1,ba_nself,r7_8]
 have k4 := rowKept g3 (opC opB) 5 []
 have hb4 : hget (Ev.newRow g3 (opC opB) 5 []) g3.size = some (.cells (opC opB) 5 true []) := by simp
 have hT : SlR T 5 OpR (Ev.newRow g3 (opC opB) 5 []) (.slice (some ⟨g3.size,0,none⟩) 1 1) [opB] := .inr ⟨g3.size,0,1,_,rfl,Nat.le_refl _,trivial,cel_of hb4,fun i y hy => by
  cases i with
  | succ i => simp at hy
  | zero => simp at hy;subst hy;exact ⟨by simp [opC],rfl⟩⟩
 refine Ans.nextC (e4 _ _ _ _ _ _ (hM3.kept k4) (slr_kept hS3 k4 fun _ _ _ q => q) hT) ?_
 rintro u g5 ⟨rfl,k5,hM5,hS5⟩
 have kh5 := kept_new (kh3.trans k4) k5 hmb
 simp (disch := first|omega|(simp only [zS];first|done|omega)) [bB,r7_9]
 refine Ans.nextC (e5 _ _ _ _ (G.kept kh5) hM5 hS5 (by omega)) ?_
 rintro l g6 ⟨k6,ov6,hS6,hM6,hW6⟩
 have kh6 := kept_new kh5 k6 hmb
 obtain ⟨b6,oo6,cc6,cs6,es6,lv6,an6,w6,rfl,hg6,hl6,p60,p61,hw6⟩ := wi_at hW6
 obtain ⟨b6',oo6',cc6',cs6',es6',lv6',an6',rfl,hg6',hl6',q60,q61⟩ := op0_at hw6
 have l60 : oo6 + 1 ≤ cs6.length := by omega
 have l61 : oo6 + 1 + 1 ≤ cs6.length := by omega
 simp only [opL,opC,belowL_lock] at q60
 simp (disch := first|omega|(simp only [zS];first|done|omega)) [bB,r7_10,hg6,l60,l61,p60,p61,hg6',hl6',q60,ba_self]
 refine Ans.nextC (e6 _ _ _ _ _ _ _ _ _ hM6) ?_
 rintro u g7 ⟨k7,rfl⟩
 simp (disch := first|omega|(simp only [zS];first|done|omega)) [bB]
 exact Ans.of ⟨kh6.trans k7,rfl⟩
end Go.Proofs.YtalamcchkkdelaaGreatDoor
end
section
set_option maxRecDepth 100000
namespace Go.Proofs.YtalamcchkkdelaaGreatDoor
open Go.Ev
variable {F : Nat} {h : H}
def AcE (h : H) (cs : List Value) (x : Ac) : Prop := ∃ v vo vr vc vp vn,cs = acC x v vo vr vc vp vn ∧ AcR h x v vo vr vc vp vn
def mZ : List Value := [vi 0,se,se,vi 0,se,.bool false,vi 0,vi 0,.bool false,.nilFunc,vi 0,se,vi 0,vi 0,nl,.bool false,vi 0,nl,vi 0,.bool false,.nilFunc,se,vi 0,vi 0,.bool false,vi 0,se,vi 0,nl,.bool false,nl,nl,.nilIface]
set_option maxHeartbeats 8000000 in
theorem law4 {v : Value} {l : List Ac} (G : Glo h) (h2 : 2 ≤ h.size) (hS : SlR T 31 AcE h v l) (hF : Big F) : Ans (cf (F + 12) 4 [v] h) fun v _ => v = .bool true := by
 rw [cf_step (a := a4) rfl rfl (by simp [a4])]
 have e1 := begins_spec (F := F) G h2 (by unfold Big at hF;omega)
 have e2 := fun (g : H) (m : Value) (x : Ac) (v vo vr vc vp vn : Value) (d : Dead m g) (hA : AcR g x v vo vr vc vp vn) => called_spec (F := F + 2) d hA (hF.w 2)
 have e3 := fun (g : H) (m : Value) (d : Dead m g) => sight_dead (F := F + 9) d
 have e4 := fun (g : H) => sameHeld_z (F := F + 9) (h := g) (hF.w 9)
 have ln := hS.len
 unfold Big at hF
 have a1 : F + 2 + 9 = F + 11 := by omega
 have a2 : F + 9 + 2 = F + 11 := by omega
 rw [a1] at e2
 rw [a2] at e3 e4
 generalize cf (F + 11) = c at *
 simp (disch := first|omega|(simp only [zS];first|done|omega)) [bB,a4,r4_0,r4_1]
 refine Ans.nextC e1 ?_
 rintro u g ⟨k1,rfl⟩
 simp (disch := first|omega|(simp only [zS];first|done|omega)) [bB,aUn,r4_2,r4_4,r4_5,r4_6,r4_7]
 obtain ⟨g1,hg1,kg,p1,p2,z1⟩ : ∃ g1,g1 = Ev.newRow (Ev.newRow g mZ 0 []) xZ 0 [] ∧ Kept g g1 [] ∧ hget g1 g.size = some (.cells mZ 0 true []) ∧ hget g1 (g.size + 1) = some (.cells xZ 0 true []) ∧ g1.size = g.size + 2 :=
  ⟨_,rfl,(rowKept _ _ _ _).trans (rowKept _ _ _ _),by simp (disch := first|omega|(simp only [zS];first|done|omega)),by simp (disch := first|omega|(simp only [zS];first|done|omega)),by simp⟩
 show Ans (loopK _ _ _ _ _ _ _ _ (Ev.newRow (Ev.newRow g mZ 0 []) xZ 0 []) _) _
 rw [← hg1]
 clear hg1
 have k2 := k1.trans kg
 have xz26 : xZ.take 26 = xZ := rfl
 refine loop_rule (fun m e g' => ∃ i : Nat,i ≤ 30 ∧ m = 30 - i ∧ Kept g1 g' [] ∧ e = [(0,v),(4,.pointer none),(5,.pointer (some ⟨g.size,0,none⟩)),(6,.pointer (some ⟨g.size + 1,0,none⟩)),(7,vi i)]) ?_ (F + 11) 30 _ g1 (by omega) ⟨0,by omega,rfl,Kept.refl _ _,rfl⟩
 rintro m e g' again ⟨i,hi,hm,hk,rfl⟩ hag
 have q1 := kget p1 hk
 have q2 := kget p2 hk
 have kh := k2.trans hk
 have dead0 : ∀ g : H,Dead (.pointer none) g := fun _ => .inl rfl
 have deadZ : Dead (.pointer (some ⟨g.size,0,none⟩)) g' := .inr ⟨g.size,mZ,0,true,[],rfl,q1,by decide,rfl⟩
 have fin : ∀ e : Env,e.get 4 = .pointer none → e.get 5 = .pointer (some ⟨g.size,0,none⟩) → Ans (evC (F + 11) (cxOf c (cfX XD) [.tmp 2]) (.seq (.region r4_15 [2]) .ret) (endK (cfX XD) [.tmp 2]) noK (endK (cfX XD) [.tmp 2]) e g' []) fun v _ => v = .bool true := by
  intro e h4 h5
  simp (disch := first|omega|(simp only [zS];first|done|omega)) [bB,r4_15,h4,h5]
  refine Ans.nextC (e3 _ _ (dead0 _)) ?_
  rintro u g3 ⟨k3,rfl⟩
  simp (disch := first|omega|(simp only [zS];first|done|omega)) [bB]
  refine Ans.nextC (e4 _) ?_
  rintro u g4 ⟨k4,rfl⟩
  simp (disch := first|omega|(simp only [zS];first|done|omega)) [bB,h4,h5]
  refine Ans.nextC (e3 _ _ ((deadZ.kept k3).kept k4)) ?_
  rintro u g5 ⟨k5,rfl⟩
  simp (disch := first|omega|(simp only [zS];first|done|omega)) [bB]
  refine Ans.nextC (e4 _) ?_
  rintro u g6 ⟨k6,rfl⟩
  simp (disch := first|omega|(simp only [zS];first|done|omega)) [bB]
  exact Ans.of rfl
 by_cases hlt : i < l.length
 ·have hlt' : (i : Int) < l.length := by omega
  by_cases h30 : i < 30
  ·have h30' : (i : Int) < 30 := by omega
   have wi : IntKind.i64.wrap ((i : Int) + 1) = ((i + 1 : Nat) : Int) := by rw [wrap_in (by omega) (by omega)];omega
   obtain ⟨x,hx⟩ : ∃ x,l[i]? = some x := ⟨_,List.getElem?_eq_getElem hlt⟩
   obtain ⟨b,o,cc,cs,es,lv,an,rfl,_,hg0,hl,w,wo,wr',wc,wp,wn,hr,hA⟩ := hS.at' hx
   have hg := kget hg0 kh
   obtain ⟨ac,hac⟩ : ∃ ac,ac = acC x w wo wr' wc wp wn := ⟨_,rfl⟩
   have e2a := fun (g : H) (m : Value) (d : Dead m g) (k : Kept h g []) => e2 g m x w wo wr' wc wp wn d (hA.kept k)
   rw [← hac] at e2a hr
   have kz := rowKept g' xZ 0 []
   have hz := (show hget (Ev.newRow g' xZ 0 []) g'.size = some (.cells xZ 0 true []) by simp)
   have hgz := kget hg kz
   have q1z := kget q1 kz
   have q2z := kget q2 kz
   have khz := kh.trans kz
   have zz : (Ev.newRow g' xZ 0 []).size = g'.size + 1 := by simp
   have sg := lt_of_get q1
   simp only [xZ] at q2z hgz
   simp (disch := first|omega|(simp only [zS];first|done|omega)) [bB,l4_14,r4_8,hlt',h30',d4_9,q2z,hgz,hl,hr]
   refine Ans.nextCE (e2a (Ev.newRow g' xZ 0 []) (.pointer none) (dead0 _) khz) ?_
   rintro u g3 ⟨k3,rfl⟩
   generalize Ev.newRow g' xZ 0 [] = gz at *
   have hz3 := kget hz k3
   have s3 := lt_of_get hz3
   simp only [xZ] at hz3
   simp (disch := first|omega|(simp only [zS];first|done|omega)) [bB,xZ,hz3]
   have kS : ∀ X : Blk,Kept g' (g3.setIfInBounds g'.size X) [] := fun X => kept_set (kz.trans k3) (Nat.le_refl _)
   show Ans (evE _ d4_10 _ (g3.setIfInBounds g'.size (.cells xZ 0 true [])) _ _ _ _ _) _
   have kS := kS (.cells xZ 0 true [])
   generalize g3.setIfInBounds g'.size (.cells xZ 0 true []) = g4 at *
   have kz4 := rowKept g4 xZ 0 []
   have hz4 := (show hget (Ev.newRow g4 xZ 0 []) g4.size = some (.cells xZ 0 true []) by simp)
   have hg4 := kget (kget hg kS) kz4
   have q24 := kget (kget q2 kS) kz4
   have d4 := (deadZ.kept kS).kept kz4
   simp only [xZ] at q24 hg4
   simp (disch := first|omega|(simp only [zS];first|done|omega)) [bB,d4_10,q24,hlt',hg4,hl,hr]
   refine Ans.nextCE (e2a (Ev.newRow g4 xZ 0 []) _ d4 ((kh.trans kS).trans kz4)) ?_
   rintro u g5 ⟨k5,rfl⟩
   generalize Ev.newRow g4 xZ 0 [] = gy at *
   have hz5 := kget hz4 k5
   have s5 := lt_of_get hz5
   simp only [xZ] at hz5
   simp (disch := first|omega|(simp only [zS];first|done|omega)) [bB,xZ,hz5,r4_11,aUn,r4_13,wi]
   exact hag (30 - (i + 1)) _ _ (by omega) ⟨i + 1,by omega,rfl,(hk.trans kS).trans (kept_set (kz4.trans k5) (Nat.le_refl _)),rfl⟩
  ·have h30' : ¬ (i : Int) < 30 := by omega
   simp (disch := first|omega|(simp only [zS];first|done|omega)) [bB,l4_14,r4_8,ln,hlt',h30']
   simpa using fin [(0,v),(4,.pointer none),(5,.pointer (some ⟨g.size,0,none⟩)),(6,.pointer (some ⟨g.size + 1,0,none⟩)),(7,vi i),(25,.bool false)] rfl rfl
 ·have hlt' : ¬ (i : Int) < l.length := by omega
  simp (disch := first|omega|(simp only [zS];first|done|omega)) [bB,l4_14,r4_8,ln,hlt']
  simpa using fin [(0,v),(4,.pointer none),(5,.pointer (some ⟨g.size,0,none⟩)),(6,.pointer (some ⟨g.size + 1,0,none⟩)),(7,vi i),(25,.bool false)] rfl rfl
end Go.Proofs.YtalamcchkkdelaaGreatDoor
end
