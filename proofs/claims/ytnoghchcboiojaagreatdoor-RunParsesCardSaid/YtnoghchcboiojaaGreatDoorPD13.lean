/- Texts of the proofs over heraldlaw18, put together by a program (merge18c.py): Rk1 Rk2 Rk3 Rk4 Rk5 Rk6. -/
import Derived.Test.YtnoghchcboiojaaGreatDoorPD12
set_option linter.unusedVariables false
set_option linter.unusedSimpArgs false
section
set_option maxRecDepth 100000
namespace Go.Proofs.YtnoghchcboiojaaGreatDoor
open Go.Ev
open Go.Rn (Bs Tok Ar St findW stepTab pStep pArg pArgs pText pNum pKind pOps w_node w_kids w_subtree)
variable {p : Bool} {F : Nat} {h : H}
theorem w1 : IntKind.i64.wrap 1 = 1 := by decide
def argsOk : Nat → List Ar → Prop
 | _,[] => True
 | n,.a :: l => n = 0 ∧ argsOk 1 l
 | n,.b :: l => n = 1 ∧ argsOk 2 l
 | n,.c :: l => n = 2 ∧ argsOk 3 l
 | n,.p :: l => argsOk n l
 | n,.k :: l => argsOk n l
 | _,.o :: l => l = []
def stE : Option (St × List Tok) → Option St
 | some (s,[]) => some s
 | _ => none
def RStepQ (res : Option St) (h : H) (w : Value) (h' : H) : Prop := Kept h h' [] ∧ ∃ s ov b,w = .tuple ⟨[.agg ⟨stC s ov⟩,.bool b]⟩ ∧ Bld (fun c => h.size ≤ c) 5 OpR h' ov s.ops ∧ (res = if b = true then some s else none)
def z6 : List Value := [vi 0,vi 0,vi 0,vi 0,vs [],.slice none 0 0]
def RS25 : List ARes := [.cellN 2 6,.tmp 3]
def L25 (p : Bool) (F : Nat) (ke : Nat → K) (fuel : Nat) : K := loopK (F + 5) (cxOf (cf p (F + 5)) (cfX XD) RS25) [0,2,6,7,8,9,10] l25_45 ke (endK (cfX XD) RS25) fuel
theorem L25_succ {ke : Nat → K} {n : Nat} {s : Env} {g : H} {ds : Ds} : L25 p F ke (n + 1) s g ds = evC (F + 5) (cxOf (cf p (F + 5)) (cfX XD) RS25) l25_45 (keepK [0,2,6,7,8,9,10] (L25 p F ke n)) ke (endK (cfX XD) RS25) s g ds := loopK_succ
theorem rstep_loop (h0 : H) (hG : GloR h0) (wv : Value) (ws : List Tok) (hW : RW h0 wv ws) (hF : 100 < F) (B2 B7 : Nat) (h2 : h0.size ≤ B2) (h27 : B2 < B7) (r : List Ar) (hr8 : r.length ≤ 8) (res : Option St) {kn : K} {ke : Nat → K}
  (hkn : ∀ (s : St) (ov : Value) (j : Nat) (g : H) (e : Env),Kept h0 g [] → j ≤ ws.length → hget g B2 = some (.cells z6 0 true []) → hget g B7 = some (.cells (stC s ov) 0 true []) → Bld (fun c => B7 < c) 5 OpR g ov s.ops → res = stE (some (s,ws.drop j)) →
    Ans (kn ((0,wv) :: (2,.pointer (some ⟨B2,0,none⟩)) :: (6,vs (r.map arR)) :: (7,.pointer (some ⟨B7,0,none⟩)) :: (8,vi j) :: e) g []) fun w h' => RStepQ res h0 w h') :
  ∀ (l : List Ar) (i n : Nat) (s : St) (ov : Value) (j : Nat) (g : H),l = r.drop i → i ≤ r.length → argsOk n l → n ≤ i → j ≤ ws.length → Kept h0 g [] → hget g B2 = some (.cells z6 0 true []) → hget g B7 = some (.cells (stC s ov) 0 true []) → Bld (fun c => B7 < c) 5 OpR g ov s.ops →
   res = stE (pArgs l s (ws.drop j)) → ∀ fuel,l.length < fuel →
   Ans (L25 p F (putK 2 kn ke) fuel [(0,wv),(2,.pointer (some ⟨B2,0,none⟩)),(6,vs (r.map arR)),(7,.pointer (some ⟨B7,0,none⟩)),(8,vi j),(9,vi n),(10,vi i)] g []) fun w h' => RStepQ res h0 w h' := by
 have hsm := hW.2
 intro l
 induction l with
 | nil =>
  intro i n s ov j g hl hi hok hni hj hk g2 g7 hB hres fuel hfu
  obtain ⟨fuel,rfl⟩ : ∃ f',fuel = f' + 1 := ⟨fuel - 1,by omega⟩
  have e : i = r.length := by
   have := congrArg List.length hl
   rw [List.length_drop] at this
   simp at this
   omega
  subst e
  rw [L25_succ]
  simp (disch := first|omega|(simp only [zS];first|done|omega)) [l25_45,r25_9]
  exact hkn s ov j g _ hk hj g2 g7 hB hres
 | cons y l ih =>
  intro i n s ov j g hl hi hok hni hj hk g2 g7 hB hres fuel hfu
  obtain ⟨fuel,rfl⟩ : ∃ f',fuel = f' + 1 := ⟨fuel - 1,by omega⟩
  have ha : r[i]? = some y := by
   have := congrArg (·[0]?) hl
   simpa using this.symm
  have hir := (List.getElem?_eq_some_iff.1 ha).1
  have hl' : l = r.drop (i + 1) := by
   have := congrArg List.tail hl
   rw [List.tail_drop] at this
   simpa using this
  have hir' : (i : Int) < r.length := by omega
  have g1 : ∀ g,atS (ofB (r.map arR)) (i : Int) g = some (.int .u8 (arR y).toNat,g) := fun g => atS_ofB (by rw [List.getElem?_map,ha];rfl)
  have s2 := lt_of_get g2
  have s7 := lt_of_get g7
  have W := hW.kept hk
  have hlen := W.1.len
  have wi : IntKind.i64.wrap ((i : Int) + 1) = (i : Int) + 1 := wrap_in (by omega) (by omega)
  have wj : IntKind.i64.wrap ((j : Int) + 1) = (j : Int) + 1 := wrap_in (by omega) (by omega)
  have wn : IntKind.i64.wrap ((n : Int) + 1) = (n : Int) + 1 := wrap_in (by omega) (by omega)
  have ow := hB.sl.one
  have ovc := hB.sl.vc
  unfold oneCell at ow
  unfold vcells at ovc
  have hno : ∀ g',Kept h0 g' [] → res = none → RStepQ res h0 (.tuple ⟨[.agg ⟨z6⟩,.bool false]⟩) g' := fun g' k e => ⟨k,{},.slice none 0 0,false,rfl,Bld.nil _ _ _ _,by rw [e];rfl⟩
  have k72 : ∀ x y,Kept h0 ((g.setIfInBounds B7 x).setIfInBounds B2 y) [] := fun x y => kept_set (kept_set hk (by omega)) h2
  rw [L25_succ]
  by_cases hjl : j < ws.length
  ·have hjl' : ¬ ((ws.length : Int) ≤ j) := by omega
   have hjl2 : (j : Int) < ws.length := by omega
   obtain ⟨t,ht⟩ : ∃ t,ws[j]? = some t := ⟨_,List.getElem?_eq_getElem hjl⟩
   have go : ∀ (s' : St) (n' : Nat) (j' : Nat) (z zn : Int),s'.ops = s.ops → argsOk n' l → n' ≤ i + 1 → j' ≤ ws.length → z = j' → zn = n' → res = stE (pArgs l s' (ws.drop j')) →
     Ans (L25 p F (putK 2 kn ke) fuel [(0,wv),(2,.pointer (some ⟨B2,0,none⟩)),(6,vs (r.map arR)),(7,.pointer (some ⟨B7,0,none⟩)),(8,vi z),(9,vi zn),(10,vi ((i : Int) + 1))] (g.setIfInBounds B7 (.cells (stC s' ov) 0 true [])) []) fun w h' => RStepQ res h0 w h' := by
    intro s' n' j' z zn q1 q2 q3 q4 q5 q6 q7
    subst q5 q6
    exact ih (i + 1) n' s' ov j' _ hl' (by omega) q2 q3 q4 (kept_set hk (by omega)) (by rw [set_other (by omega)];exact g2) (by simp (disch := first|omega|(simp only [zS];first|done|omega)) []) (by rw [q1];exact bld_set hB (by omega)) q7 fuel (by simp at hfu;omega)
   cases y with
   | a =>
    obtain ⟨rfl,hok'⟩ := hok
    have hoa : (arR .a).toNat = 78 := rfl
    rw [hoa] at g1
    obtain ⟨b,off',c,cs,es,lv,an,hwv,hg,hl3,t0,t1,t2⟩ := W.word ht
    have hl1 : off' + j * 3 + 1 ≤ cs.length := by omega
    have hl4 : off' + j * 3 + 2 + 1 ≤ cs.length := by omega
    subst hwv
    rw [drop_at ht] at hres
    by_cases hk35 : rkind t = 35
    ·obtain ⟨nn,rfl⟩ : ∃ n,t = .num n := by cases t <;> simp [rkind] at hk35 ⊢
     simp only [rkind] at t0
     simp only [numOf] at t2
     simp only [pArgs,pArg,pNum,Option.map_some] at hres
     simp (disch := first|omega|(simp only [zS];first|done|omega)) [l25_45,r25_9,hir',r25_10,hjl',r25_12,r25_13,g1,r25_14,r25_15,hjl2,hg,hl1,t0,r25_16,r25_17,r25_18,hl4,t2,g7,stC,ow,r25_23,r25_24,wj,w1,r25_42,aUn,r25_44,wi]
     exact go { s with a := nn } 1 (j + 1) _ 1 rfl hok' (by omega) (by omega) (by omega) rfl hres
    ·have hkb : (rkind t == 35) = false := by simpa using hk35
     have hb : pNum (t :: ws.drop (j + 1)) = none := by cases t <;> first | rfl | exact absurd rfl hk35
     simp only [pArgs,pArg,hb] at hres
     simp (disch := first|omega|(simp only [zS];first|done|omega)) [l25_45,r25_9,hir',r25_10,hjl',r25_12,r25_13,g1,r25_14,r25_15,hjl2,hg,hl1,t0,hkb,r25_16,r25_17,r25_18,hl4,t2,g7,stC,ow,r25_23,r25_24,wj,w1,r25_42,aUn,r25_43,g2,z6,RS25,lit_nil]
     exact Ans.of (hno _ (k72 _ _) hres)
   | b =>
    obtain ⟨rfl,hok'⟩ := hok
    have hoa : (arR .b).toNat = 78 := rfl
    rw [hoa] at g1
    obtain ⟨b,off',c,cs,es,lv,an,hwv,hg,hl3,t0,t1,t2⟩ := W.word ht
    have hl1 : off' + j * 3 + 1 ≤ cs.length := by omega
    have hl4 : off' + j * 3 + 2 + 1 ≤ cs.length := by omega
    subst hwv
    rw [drop_at ht] at hres
    by_cases hk35 : rkind t = 35
    ·obtain ⟨nn,rfl⟩ : ∃ n,t = .num n := by cases t <;> simp [rkind] at hk35 ⊢
     simp only [rkind] at t0
     simp only [numOf] at t2
     simp only [pArgs,pArg,pNum,Option.map_some] at hres
     simp (disch := first|omega|(simp only [zS];first|done|omega)) [l25_45,r25_9,hir',r25_10,hjl',r25_12,r25_13,g1,r25_14,r25_15,hjl2,hg,hl1,t0,r25_16,r25_17,r25_19,r25_20,hl4,t2,g7,stC,ow,r25_23,r25_24,wj,w2,r25_42,aUn,r25_44,wi]
     exact go { s with b := nn } 2 (j + 1) _ 2 rfl hok' (by omega) (by omega) (by omega) rfl hres
    ·have hkb : (rkind t == 35) = false := by simpa using hk35
     have hb : pNum (t :: ws.drop (j + 1)) = none := by cases t <;> first | rfl | exact absurd rfl hk35
     simp only [pArgs,pArg,hb] at hres
     simp (disch := first|omega|(simp only [zS];first|done|omega)) [l25_45,r25_9,hir',r25_10,hjl',r25_12,r25_13,g1,r25_14,r25_15,hjl2,hg,hl1,t0,hkb,r25_16,r25_17,r25_19,r25_20,hl4,t2,g7,stC,ow,r25_23,r25_24,wj,w2,r25_42,aUn,r25_43,g2,z6,RS25,lit_nil]
     exact Ans.of (hno _ (k72 _ _) hres)
   | c =>
    obtain ⟨rfl,hok'⟩ := hok
    have hoa : (arR .c).toNat = 78 := rfl
    rw [hoa] at g1
    obtain ⟨b,off',c,cs,es,lv,an,hwv,hg,hl3,t0,t1,t2⟩ := W.word ht
    have hl1 : off' + j * 3 + 1 ≤ cs.length := by omega
    have hl4 : off' + j * 3 + 2 + 1 ≤ cs.length := by omega
    subst hwv
    rw [drop_at ht] at hres
    by_cases hk35 : rkind t = 35
    ·obtain ⟨nn,rfl⟩ : ∃ n,t = .num n := by cases t <;> simp [rkind] at hk35 ⊢
     simp only [rkind] at t0
     simp only [numOf] at t2
     simp only [pArgs,pArg,pNum,Option.map_some] at hres
     simp (disch := first|omega|(simp only [zS];first|done|omega)) [l25_45,r25_9,hir',r25_10,hjl',r25_12,r25_13,g1,r25_14,r25_15,hjl2,hg,hl1,t0,r25_16,r25_17,r25_19,r25_21,r25_22,hl4,t2,g7,stC,ow,r25_23,r25_24,wj,w3,r25_42,aUn,r25_44,wi]
     exact go { s with c := nn } 3 (j + 1) _ 3 rfl hok' (by omega) (by omega) (by omega) rfl hres
    ·have hkb : (rkind t == 35) = false := by simpa using hk35
     have hb : pNum (t :: ws.drop (j + 1)) = none := by cases t <;> first | rfl | exact absurd rfl hk35
     simp only [pArgs,pArg,hb] at hres
     simp (disch := first|omega|(simp only [zS];first|done|omega)) [l25_45,r25_9,hir',r25_10,hjl',r25_12,r25_13,g1,r25_14,r25_15,hjl2,hg,hl1,t0,hkb,r25_16,r25_17,r25_19,r25_21,r25_22,hl4,t2,g7,stC,ow,r25_23,r25_24,wj,w3,r25_42,aUn,r25_43,g2,z6,RS25,lit_nil]
     exact Ans.of (hno _ (k72 _ _) hres)
   | p =>
    have hoa : (arR .p).toNat = 80 := rfl
    rw [hoa] at g1
    have e1 := rtext_eq (p := p) (F := F + 4) W j (by omega) true
    have hp := ptext_r ws j true
    simp only [pArgs,pArg] at hres
    rw [hp] at hres
    cases htt : rtextV ws j true with
    | none =>
     rw [htt] at e1 hres
     simp only [optV] at e1
     simp only [Option.map_none] at hres
     simp (disch := first|omega|(simp only [zS];first|done|omega)) [l25_45,r25_9,hir',r25_10,hlen,hjl',r25_12,r25_13,g1,r25_14,r25_25,r25_26,e1,List.getElem?_cons_zero,List.getElem?_cons_succ,g7,stC,ow,r25_27,wj,r25_42,aUn,r25_43,g2,z6,RS25,lit_nil]
     exact Ans.of (hno _ (k72 _ _) hres)
    | some tx =>
     rw [htt] at e1 hres
     simp only [optV] at e1
     simp only [Option.map_some] at hres
     simp (disch := first|omega|(simp only [zS];first|done|omega)) [l25_45,r25_9,hir',r25_10,hlen,hjl',r25_12,r25_13,g1,r25_14,r25_25,r25_26,e1,List.getElem?_cons_zero,List.getElem?_cons_succ,g7,stC,ow,r25_27,wj,r25_42,aUn,r25_44,wi]
     exact go { s with place := tx } n (j + 1) _ n rfl hok (by omega) (by omega) (by omega) rfl hres
   | k =>
    have hoa : (arR .k).toNat = 75 := rfl
    rw [hoa] at g1
    simp only [pArgs,pArg] at hres
    have kr := rowKept g [vs [],vs w_node,vs w_kids,vs w_subtree] 1 []
    have g7' : hget (Ev.newRow g [vs [],vs w_node,vs w_kids,vs w_subtree] 1 []) B7 = some (.cells [vi s.kind,vi s.a,vi s.b,vi s.c,vs s.place,ov] 0 true []) := (kr.get s7 (by simp)).trans g7
    have g2' : hget (Ev.newRow g [vs [],vs w_node,vs w_kids,vs w_subtree] 1 []) B2 = some (.cells z6 0 true []) := (kr.get s2 (by simp)).trans g2
    have gn : hget (Ev.newRow g [vs [],vs w_node,vs w_kids,vs w_subtree] 1 []) g.size = some (.cells [vs [],vs w_node,vs w_kids,vs w_subtree] 1 true []) := by simp
    have hB' := hB.kept kr (by simp) fun _ _ _ q => q
    have hkr := hk.trans kr
    have lp : ∀ (kn' : K) (ke' : Nat → K) (kr' : K) (v2 v6 v9 v10 : Value),_ := fun kn' ke' kr' v2 v6 v9 v10 => kind_loop (p := p) (F := F + 4) h0 (Ev.newRow g [vs [],vs w_node,vs w_kids,vs w_subtree] 1 []) wv ws hW hkr j (by omega) B7 g.size (by omega) (by omega) _ _ _ _ _ _ g7' 1 gn
     (cd := cfX XD) (rs := RS25) (kn := kn') (ke := ke') (kr := kr') (ds := []) (F0 := F + 5) (fuel := F + 1) (v2 := v2) (v6 := v6) (v9 := v9) (v10 := v10)
    have hkr2 := pkind_r ws j
    have z7 : B7 < (Ev.newRow g [vs [],vs w_node,vs w_kids,vs w_subtree] 1 []).size := lt_of_get g7'
    have z2 : B2 < (Ev.newRow g [vs [],vs w_node,vs w_kids,vs w_subtree] 1 []).size := lt_of_get g2'
    simp (disch := first|omega|(simp only [zS];first|done|omega)) [l25_45,r25_9,hir',r25_10,hlen,hjl',r25_12,r25_13,g1,r25_14,r25_25,r25_28,r25_29,r25_30,r25_31,lits_k,lit_nil]
    generalize Ev.newRow g [vs [],vs w_node,vs w_kids,vs w_subtree] 1 [] = g' at *
    refine (show ∀ {x y : Res} {Q : Value → H → Prop},x = y → Ans y Q → Ans x Q from fun e y => e ▸ y) (lp _ _ _ _ _ _ _) ?_
    have hsome : ∀ q,pKind (ws.drop j) = some q → q.2 = ws.drop (j + 1) := by
     intro q hq
     rw [hkr2] at hq
     split at hq
     ·cases hq;rfl
     ·split at hq
      ·cases hq;rfl
      ·split at hq
       ·cases hq;rfl
       ·cases hq
    cases hpk : pKind (ws.drop j) with
    | none =>
     rw [hpk] at hres
     simp only [Option.map_none] at hres
     simp (disch := first|omega|(simp only [zS];first|done|omega)) [r25_38,wj,r25_42,aUn,r25_43,g2',z6,RS25,lit_nil]
     exact Ans.of (hno _ (kept_set hkr h2) hres)
    | some q =>
     obtain ⟨kk,t'⟩ := q
     have := hsome _ hpk
     simp only at this
     subst this
     rw [hpk] at hres
     simp only [Option.map_some] at hres
     simp (disch := first|omega|(simp only [zS];first|done|omega)) [r25_38,wj,r25_42,aUn,r25_44,wi]
     have := ih (i + 1) n { s with b := kk } ov (j + 1) (g'.setIfInBounds B7 (.cells (stC { s with b := kk } ov) 0 true [])) hl' (by omega) hok (by omega) (by omega) (kept_set hkr (by omega)) (by rw [set_other (by omega)];exact g2') (by simp (disch := first|omega|(simp only [zS];first|done|omega)) []) (bld_set hB' (by omega)) hres fuel (by simp at hfu;omega)
     exact this
   | o =>
    have hoa : (arR .o).toNat = 79 := rfl
    rw [hoa] at g1
    simp only [argsOk] at hok
    subst hok
    have e1 := rall_spec (p := p) (F := F + 1) (hG.kept hk) W j (by omega) (by omega)
    simp only [pArgs,pArg] at hres
    simp (disch := first|omega|(simp only [zS];first|done|omega)) [l25_45,r25_9,hir',r25_10,hlen,hjl',r25_12,r25_13,g1,r25_14,r25_25,r25_28,r25_39,r25_40]
    refine Ans.nextC e1 ?_
    rintro w g3 ⟨k3,Q⟩
    have g73 := (k3.get s7 (by simp)).trans g7
    have g23 := (k3.get s2 (by simp)).trans g2
    have t7 := lt_of_get g73
    have t2 := lt_of_get g23
    have hk3 := hk.trans k3
    cases hp : pOps 4 (ws.drop j) with
    | none =>
     rw [hp] at Q hres
     simp only at Q
     simp only [Option.map_none] at hres
     subst Q
     simp (disch := first|omega|(simp only [zS];first|done|omega)) [List.getElem?_cons_zero,List.getElem?_cons_succ,g73,stC,r25_41,hlen,r25_42,aUn,r25_43,g23,z6,RS25,lit_nil]
     exact Ans.of (hno _ (kept_set (kept_set hk3 (by omega)) h2) hres)
    | some ops =>
     rw [hp] at Q hres
     obtain ⟨lv',rfl,q2⟩ := Q
     simp only [Option.map_some] at hres
     have ow2 := q2.sl.one
     have ovc2 := q2.sl.vc
     unfold oneCell at ow2
     unfold vcells at ovc2
     simp (disch := first|omega|(simp only [zS];first|done|omega)) [List.getElem?_cons_zero,List.getElem?_cons_succ,g73,stC,ow2,ovc2,r25_41,hlen,r25_42,aUn,r25_44,wi]
     have := ih (i + 1) n { s with ops := ops } lv' ws.length (g3.setIfInBounds B7 (.cells (stC { s with ops := ops } lv') 0 true [])) hl' (by omega) trivial (by omega) (Nat.le_refl _) (kept_set hk3 (by omega)) (by rw [set_other (by omega)];exact g23) (by simp (disch := first|omega|(simp only [zS];first|done|omega)) []) (bld_set (q2.imp fun b _ q => by omega) (by omega)) (by rw [hres,List.drop_eq_nil_iff.2 (Nat.le_refl _)];rfl) fuel (by simp at hfu ⊢;omega)
     exact this
  ·have hjl' : ((ws.length : Int) ≤ j) := by omega
   have hr : res = none := by
    rw [hres,List.drop_eq_nil_iff.2 (show ws.length ≤ j by omega)]
    cases y <;> rfl
   simp (disch := first|omega|(simp only [zS];first|done|omega)) [l25_45,r25_9,hir',r25_10,hlen,hjl',r25_11,g2,z6,RS25,lit_nil]
   exact Ans.of (hno _ (kept_set hk h2) hr)
end Go.Proofs.YtnoghchcboiojaaGreatDoor
end
section
set_option maxRecDepth 100000
namespace Go.Proofs.YtnoghchcboiojaaGreatDoor
open Go.Ev
open Go.Rn (Bs Tok Ar St findW stepTab pStep pArgs)
variable {p : Bool} {F : Nat} {h : H}
theorem stepLs_head : ∀ q ∈ stepTab,headV (q.1 ++ 32 :: q.2.map arR) = .tuple ⟨[vs q.1,vs (q.2.map arR)]⟩ ∧ (q.1 ++ 32 :: q.2.map arR).length ≤ 30 ∧ q.2.length ≤ 8 ∧ argsOk 0 q.2 := by
 intro q hq
 simp only [stepTab,List.mem_cons,List.not_mem_nil,or_false] at hq
 rcases hq with rfl | rfl | rfl | rfl | rfl | rfl | rfl | rfl | rfl | rfl | rfl | rfl | rfl | rfl | rfl | rfl <;> exact ⟨rfl,by decide,by decide,by simp [argsOk]⟩
def pStK (k : Nat) (l : List (Bs × List Ar)) : List Tok → Option St
 | .name w :: t => match findW w k l with
  | some (k,r) => stE (pArgs r { kind := k } t)
  | none => none
 | _ => none
theorem pStK_is (t : List Tok) : pStep t = pStK 1 stepTab t := by
 cases t with
 | nil => rfl
 | cons a l =>
  cases a with
  | name w =>
   simp only [pStep,pStK]
   cases findW w 1 stepTab with
   | none => rfl
   | some q =>
    simp only
    cases pArgs q.2 { kind := (q.1 : Int) } l with
    | none => rfl
    | some z =>
     obtain ⟨s,t⟩ := z
     cases t <;> rfl
  | _ => rfl
theorem pStK_nil (k : Nat) (t : List Tok) : pStK k [] t = none := by
 cases t with
 | nil => rfl
 | cons a l => cases a <;> rfl
theorem pStK_cons (k : Nat) (n : Bs) (r : List Ar) (l : List (Bs × List Ar)) (ws : List Tok) : pStK k ((n,r) :: l) ws = if isN ws 0 n = true then stE (pArgs r { kind := k } (ws.drop 1)) else pStK (k + 1) l ws := by
 cases ws with
 | nil => simp [isN,pStK]
 | cons t ws =>
  cases t with
  | name s =>
   by_cases e : s = n
   ·subst e;simp [isN,pStK,findW]
   ·have e' : ¬ n = s := fun q => e q.symm
    simp [isN,pStK,findW,e,e']
  | _ => simp [isN,pStK]
def L25o (p : Bool) (F : Nat) (fuel : Nat) : K := loopK (F + 5) (cxOf (cf p (F + 5)) (cfX XD) RS25) [0,2,4] l25_48 (putK 0 (evC (F + 5) (cxOf (cf p (F + 5)) (cfX XD) RS25) (.seq (.region r25_49 [2,3]) .ret) (endK (cfX XD) RS25) noK (endK (cfX XD) RS25)) noK) (endK (cfX XD) RS25) fuel
theorem L25o_succ {n : Nat} {s : Env} {g : H} {ds : Ds} : L25o p F (n + 1) s g ds = evC (F + 5) (cxOf (cf p (F + 5)) (cfX XD) RS25) l25_48 (keepK [0,2,4] (L25o p F n)) (putK 0 (evC (F + 5) (cxOf (cf p (F + 5)) (cfX XD) RS25) (.seq (.region r25_49 [2,3]) .ret) (endK (cfX XD) RS25) noK (endK (cfX XD) RS25)) noK) (endK (cfX XD) RS25) s g ds := loopK_succ
theorem rstep_outer (h0 : H) (hG : GloR h0) (wv : Value) (ws : List Tok) (hW : RW h0 wv ws) (B2 : Nat) (h2 : h0.size ≤ B2) (hF : 100 < F) :
  ∀ (l : List (Bs × List Ar)) (k : Nat) (g : H),1 ≤ k → l = stepTab.drop (k - 1) → k + l.length = 17 → Kept h0 g [] → hget g B2 = some (.cells z6 0 true []) → ∀ fuel,l.length < fuel →
   Ans (L25o p F fuel [(0,wv),(2,.pointer (some ⟨B2,0,none⟩)),(4,vi k)] g []) fun w h' => RStepQ (pStK k l ws) h0 w h' := by
 have hsm := hW.2
 intro l
 induction l with
 | nil =>
  intro k g hk1 hl hk8 hk g2 fuel hfu
  obtain ⟨fuel,rfl⟩ : ∃ f',fuel = f' + 1 := ⟨fuel - 1,by omega⟩
  have e : k = 17 := by simpa using hk8
  subst e
  have s2 := lt_of_get g2
  rw [L25o_succ,pStK_nil]
  simp (disch := first|omega|(simp only [zS];first|done|omega)) [l25_48,r25_2,r25_49,g2,z6,RS25,lit_nil]
  exact Ans.of ⟨kept_set hk h2,{},.slice none 0 0,false,rfl,Bld.nil _ _ _ _,rfl⟩
 | cons a l ih =>
  intro k g hk1 hl hk8 hk g2 fuel hfu
  obtain ⟨fuel,rfl⟩ : ∃ f',fuel = f' + 1 := ⟨fuel - 1,by omega⟩
  obtain ⟨n,r⟩ := a
  have hat : stepTab[k - 1]? = some (n,r) := by
   have := congrArg (·[0]?) hl
   simpa using this.symm
  have hl' : l = stepTab.drop (k + 1 - 1) := by
   have := congrArg List.tail hl
   rw [List.tail_drop] at this
   rw [show k + 1 - 1 = k - 1 + 1 by omega]
   simpa using this
  have hk7 : k < 17 := by simp at hk8;omega
  have hmem := List.mem_of_getElem? hat
  obtain ⟨hh,hlen,hq8,hok⟩ := stepLs_head _ hmem
  simp only at hh hlen hq8 hok
  have s2 := lt_of_get g2
  have hk7' : (k : Int) < 17 := by omega
  have gl := (hG.kept hk).lines
  have hrow : ((stepLs.map vs).drop k).take 1 = [vs (n ++ 32 :: r.map arR)] := by
   have h1 : stepLs[k]? = some (n ++ 32 :: r.map arR) := by
    obtain ⟨k',rfl⟩ : ∃ k',k = k' + 1 := ⟨k - 1,by omega⟩
    simp only [Nat.add_sub_cancel] at hat
    simp [stepLs,hat]
   have h2 := (List.getElem?_eq_some_iff.1 h1)
   obtain ⟨h3,h4⟩ := h2
   rw [List.drop_eq_getElem_cons (by simpa using h3)]
   simp [h4]
  have hlen8 : (stepLs.map vs).length = 17 := rfl
  have hk8' : k + 1 ≤ (stepLs.map vs).length := by rw [hlen8];omega
  have e1 := head_eq (p := p) (F := F + 4) (h := g) (n ++ 32 :: r.map arR) (by omega) (by omega)
  rw [hh] at e1
  have e2 := isName_eq (p := p) (F := F + 4) (hW.kept hk) 0 (by omega) n
  have wk : IntKind.i64.wrap ((k : Int) + 1) = (k : Int) + 1 := wrap_in (by omega) (by omega)
  generalize stepLs.map vs = tb at *
  have gn : (0 < gN) = True := eq_true (by decide)
  rw [L25o_succ,pStK_cons]
  cases hn : isN ws 0 n with
  | false =>
   rw [hn] at e2
   simp only [Bool.false_eq_true,if_false]
   simp at e2
   simp (disch := first|omega|(simp only [zS];first|done|omega)) [l25_48,r25_2,hk7',r25_3,gn,gl,hrow,hk8',e1,List.getElem?_cons_zero,List.getElem?_cons_succ,r25_4,e2,aUn,r25_47,wk]
   exact ih (k + 1) g (by omega) hl' (by simp at hk8;omega) hk g2 fuel (by simp at hfu;omega)
  | true =>
   rw [hn] at e2
   simp only [if_true]
   have hjl : 0 < ws.length := by
    have : ws[0]? = some (.name n) := by simpa [isN] using hn
    exact (List.getElem?_eq_some_iff.1 this).1
   simp at e2
   simp (disch := first|omega|(simp only [zS];first|done|omega)) [l25_48,r25_2,hk7',r25_3,gn,gl,hrow,hk8',e1,List.getElem?_cons_zero,List.getElem?_cons_succ,r25_4,e2,aUn,r25_5,r25_6,r25_7,r25_8]
   have kn := rowKept g (stC { kind := k } (.slice none 0 0)) 0 []
   have hrow : Ev.newRow g [vi k,vi 0,vi 0,vi 0,.string { data := #[] },.slice none 0 0] 0 [] = Ev.newRow g (stC { kind := k } (.slice none 0 0)) 0 [] := rfl
   rw [show ws.tail = ws.drop 1 from List.drop_one.symm]
   refine rstep_loop (p := p) (F := F) h0 hG wv ws hW hF B2 g.size h2 s2 r hq8 (stE (pArgs r { kind := k } (ws.drop 1))) ?_ r 0 0 { kind := k } (.slice none 0 0) 1 _ rfl (Nat.zero_le _) hok (Nat.le_refl _) (by omega) (hk.trans kn) ?_ (by simp) (Bld.nil _ _ _ _) rfl (F + 5) (by omega)
   ·intro s ov j' g' e k' j1 a2 a7 hB hres
    have t2 := lt_of_get a2
    have t7 := lt_of_get a7
    have ow := hB.sl.one
    have ovc := hB.sl.vc
    unfold oneCell at ow
    unfold vcells at ovc
    have hlen := (hW.kept k').1.len
    simp (disch := first|omega|(simp only [zS];first|done|omega)) [r25_46,a2,a7,stC,z6,RS25,ow,ovc,hlen]
    refine Ans.of ⟨kept_set k' h2,s,ov,_,rfl,(bld_set hB (by omega)).imp (fun b _ q => by have := hk.1;omega),?_⟩
    ·rw [List.drop_one] at hres
     rw [hres]
     by_cases e : j' = ws.length
     ·subst e
      rw [List.drop_eq_nil_iff.2 (Nat.le_refl _)]
      simp [stE]
     ·have hq : ((j' : Int) == ws.length) = false := by simp;omega
      rw [hq]
      obtain ⟨t,ht⟩ : ∃ t,ws[j']? = some t := ⟨_,List.getElem?_eq_getElem (by omega)⟩
      rw [drop_at ht]
      simp [stE]
   ·rw [kn.get s2 (by simp)];exact g2
theorem rstep_spec {wv : Value} {ws : List Tok} (hG : GloR h) (hW : RW h wv ws) (hF : 100 < F) : Ans (cf p (F + 6) 25 [wv] h) fun w h' => RStepQ (pStep ws) h w h' := by
 rw [cf_step (a := a25) rfl rfl (by simp [a25])]
 have k0 := rowKept h z6 0 []
 have hrow : Ev.newRow h [vi 0,vi 0,vi 0,vi 0,.string { data := #[] },.slice none 0 0] 0 [] = Ev.newRow h z6 0 [] := rfl
 have main := rstep_outer (p := p) (F := F) h hG wv ws hW h.size (Nat.le_refl _) hF stepTab 1 (Ev.newRow h z6 0 []) (Nat.le_refl _) rfl rfl k0 (by simp) (F + 5) (by show 16 < F + 5;omega)
 rw [← pStK_is] at main
 simp (disch := first|omega|(simp only [zS];first|done|omega)) [a25,r25_0,r25_1]
 rw [hrow]
 exact main
end Go.Proofs.YtnoghchcboiojaaGreatDoor
end
section
set_option maxRecDepth 100000
namespace Go.Proofs.YtnoghchcboiojaaGreatDoor
open Go.Ev
open Go.Rn (Bs Tok Ru pRules pField pFields ruleWords pIs pNum w_world)
variable {p : Bool} {F : Nat} {h : H}
theorem pFields_len : ∀ {l : List Bs} {t t' : List Tok} {ns : List Int},pFields l t = some (ns,t') → t.length = 2 * l.length + t'.length
 | [],t,t',ns,e => by simp [pFields] at e;rw [e.2];simp
 | w :: l,t,t',ns,e => by
  unfold pFields at e
  split at e
  ·rename_i n t1 hp
   obtain ⟨q,hq,e⟩ := Option.map_eq_some_iff.1 e
   obtain ⟨qa,qb⟩ := q
   simp only [Prod.mk.injEq] at e
   have := pFields_len hq
   have e2 := e.2
   subst e2
   unfold pField at hp
   cases t with
   | nil => simp [pIs] at hp
   | cons a r =>
    cases a with
    | name s =>
     simp only [pIs] at hp
     split at hp
     ·rename_i r2 hr2
      split at hr2
      ·cases hr2
       cases r with
       | nil => simp [pNum] at hp
       | cons b r3 =>
        cases b with
        | num m =>
         simp [pNum] at hp
         rw [← hp.2] at this
         simp [this];omega
        | _ => simp [pNum] at hp
      ·cases hr2
     ·cases hp
    | _ => simp [pIs] at hp
  ·cases e
theorem rules_len {ws : List Tok} (hl : ws.length ≠ 13) : pRules ws = none := by
 rw [rulesOf_pRules]
 cases ws with
 | nil => rfl
 | cons a r =>
  cases a with
  | name s =>
   simp only [pIs]
   split
   ·rename_i r2 hr2
    split at hr2
    ·cases hr2
     cases hp : pFields ruleWords r with
     | none => rfl
     | some q =>
      obtain ⟨ns,t'⟩ := q
      have := pFields_len hp
      unfold rulesOf
      split
      ·rename_i e
       simp only [Option.some.injEq,Prod.mk.injEq] at e
       have h6 : ruleWords.length = 6 := rfl
       rw [e.2,h6] at this
       simp at this hl
       omega
      ·rfl
    ·cases hr2
   ·rfl
  | _ => rfl
def RRulesQ (res : Option Ru) (h : H) (w : Value) (h' : H) : Prop := Kept h h' [] ∧ match res with
 | some x => w = .tuple ⟨[.agg ⟨ruC x⟩,.bool true]⟩
 | none => w = .tuple ⟨[.agg ⟨zer⟩,.bool false]⟩
def RS24 : List ARes := [.cellN 2 6,.tmp 3]
def E24 (p : Bool) (F : Nat) : K := evC (F + 1) (cxOf (cf p (F + 1)) (cfX XD) RS24) (.seq (.region r24_12 [2,3]) .ret) (endK (cfX XD) RS24) noK (endK (cfX XD) RS24)
theorem E24_eq {s : Env} {g : H} {ds : Ds} : E24 p F s g ds = evC (F + 1) (cxOf (cf p (F + 1)) (cfX XD) RS24) (.seq (.region r24_12 [2,3]) .ret) (endK (cfX XD) RS24) noK (endK (cfX XD) RS24) s g ds := nr rfl
def L24 (p : Bool) (F : Nat) (fuel : Nat) : K := loopK (F + 1) (cxOf (cf p (F + 1)) (cfX XD) RS24) [0,2,4,5,6] l24_11 (putK 0 (E24 p F) noK) (endK (cfX XD) RS24) fuel
theorem L24_succ {n : Nat} {s : Env} {g : H} {ds : Ds} : L24 p F (n + 1) s g ds = evC (F + 1) (cxOf (cf p (F + 1)) (cfX XD) RS24) l24_11 (keepK [0,2,4,5,6] (L24 p F n)) (putK 0 (E24 p F) noK) (endK (cfX XD) RS24) s g ds := loopK_succ
theorem rrules_loop (h0 : H) (wv : Value) (ws : List Tok) (hW : RW h0 wv ws) (h13 : ws.length = 13) (B2 B4 B5 : Nat) (h2 : h0.size ≤ B2) (h24 : B2 < B4) (h45 : B4 < B5) (res : Option Ru) :
  ∀ (m i : Nat) (acc : List Int) (g : H),m = 6 - i → i ≤ 6 → acc.length = i → Kept h0 g [] → hget g B2 = some (.cells zer 0 true []) → hget g B4 = some (.cells (ruleWords.map vs) 1 true []) →
   hget g B5 = some (.cells ((acc ++ List.replicate (6 - i) 0).map vi) 0 true []) → res = rulesOf ((pFields (ruleWords.drop i) (ws.drop (1 + 2 * i))).map (fun q => (acc ++ q.1,q.2))) →
   ∀ fuel,m < fuel → Ans (L24 p F fuel [(0,wv),(2,.pointer (some ⟨B2,0,none⟩)),(4,.slice (some ⟨B4,0,none⟩) 6 6),(5,.pointer (some ⟨B5,0,none⟩)),(6,vi i)] g []) fun w h' => RRulesQ res h0 w h' := by
 intro m
 induction m with
 | zero =>
  intro i acc g hm hi hacc hk g2 g4 g5 hres fuel hfu
  obtain ⟨fuel,rfl⟩ : ∃ f',fuel = f' + 1 := ⟨fuel - 1,by omega⟩
  have e : i = 6 := by omega
  subst e
  have s2 := lt_of_get g2
  obtain ⟨n1,n2,n3,n4,n5,n6,rfl⟩ : ∃ n1 n2 n3 n4 n5 n6,acc = [n1,n2,n3,n4,n5,n6] := by
   match acc,hacc with
   | [n1,n2,n3,n4,n5,n6],_ => exact ⟨_,_,_,_,_,_,rfl⟩
  have hr : res = some ⟨n1,n2,n3,n4,n5,n6⟩ := by
   rw [hres,List.drop_eq_nil_iff.2 (show ws.length ≤ 1 + 2 * 6 by omega)];rfl
  rw [L24_succ]
  simp at g5
  simp (disch := first|omega|(simp only [zS];first|done|omega)) [l24_11,r24_6]
  rw [E24_eq]
  simp (disch := first|omega|(simp only [zS];first|done|omega)) [r24_12,g5,g2,zer,RS24]
  exact Ans.of ⟨kept_set hk h2,by rw [hr];rfl⟩
 | succ m ih =>
  intro i acc g hm hi hacc hk g2 g4 g5 hres fuel hfu
  obtain ⟨fuel,rfl⟩ : ∃ f',fuel = f' + 1 := ⟨fuel - 1,by omega⟩
  have hi6 : i < 6 := by omega
  have hi6' : (i : Int) < 6 := by omega
  obtain ⟨w0,hw1,_⟩ := fld_at hi6
  have s2 := lt_of_get g2
  have s4 := lt_of_get g4
  have s5 := lt_of_get g5
  have W := hW.kept hk
  have hrow : ((ruleWords.map vs).drop i).take 1 = [vs w0] := by
   obtain ⟨h3,h4⟩ := List.getElem?_eq_some_iff.1 hw1
   rw [List.drop_eq_getElem_cons (by simpa using h3)]
   simp [h4]
  have hl6 : i + 1 ≤ (ruleWords.map vs).length := by show i + 1 ≤ 6;omega
  have e1 := isName_eq (p := p) (F := F) W (1 + 2 * i) (by omega) w0
  have wa : IntKind.i64.wrap (2 * (i : Int)) = 2 * (i : Int) := wrap_in (by omega) (by omega)
  have wb : IntKind.i64.wrap (1 + 2 * (i : Int)) = 1 + 2 * (i : Int) := wrap_in (by omega) (by omega)
  have wc : IntKind.i64.wrap (2 + 2 * (i : Int)) = 2 + 2 * (i : Int) := wrap_in (by omega) (by omega)
  have wi : IntKind.i64.wrap ((i : Int) + 1) = (i : Int) + 1 := wrap_in (by omega) (by omega)
  have hres0 : pFields (ruleWords.drop i) (ws.drop (1 + 2 * i)) = match pField w0 (ws.drop (1 + 2 * i)) with
    | some (n,t1) => (pFields (ruleWords.drop (i + 1)) t1).map fun q => (n :: q.1,q.2)
    | none => none := by
   rw [drop_at hw1];rfl
  have hpf : pField w0 (ws.drop (1 + 2 * i)) = if isN ws (1 + 2 * i) w0 = true then pNum (ws.drop (1 + 2 * i + 1)) else none := by
   unfold pField
   rw [pis_r]
   split <;> simp_all
  push_cast at e1
  have hl5 : i + 1 ≤ acc.length + (6 - i) := by omega
  have hrow5 : ∀ nn,List.take i (List.map vi acc ++ List.replicate (6 - i) (vi 0)) ++ vi nn :: List.drop (i + 1) (List.map vi acc ++ List.replicate (6 - i) (vi 0)) = (acc ++ [nn] ++ List.replicate (6 - (i + 1)) 0).map vi := by
   intro nn
   subst hacc
   rw [List.take_append_of_le_length (by simp),List.take_of_length_le (by simp),List.drop_append,List.drop_of_length_le (by simp),List.drop_replicate]
   simp;omega
  generalize ruleWords.map vs = tb at *
  rw [L24_succ]
  cases hn : isN ws (1 + 2 * i) w0 with
  | false =>
   rw [hn] at e1 hpf
   simp only [Bool.false_eq_true,if_false] at hpf
   rw [hpf] at hres0
   rw [hres0] at hres
   simp (disch := first|omega|(simp only [zS];first|done|omega)) [l24_11,r24_6,hi6',r24_7,wa,wb,g4,hrow,hl6,e1,aUn,r24_8,g2,zer,RS24]
   exact Ans.of ⟨kept_set hk h2,by rw [hres];rfl⟩
  | true =>
   rw [hn] at e1 hpf
   simp only [if_true] at hpf
   obtain ⟨t,ht⟩ : ∃ t,ws[2 + 2 * i]? = some t := ⟨_,List.getElem?_eq_getElem (by omega)⟩
   obtain ⟨b,off',c,cs,es,lv,an,hwv,hg,hl3,t0,t1,t2⟩ := W.word ht
   have hl1 : off' + (2 + 2 * i) * 3 + 1 ≤ cs.length := by omega
   have hl4 : off' + (2 + 2 * i) * 3 + 2 + 1 ≤ cs.length := by omega
   have z1 : (0 : Int) ≤ 2 + 2 * (i : Int) := by omega
   have z2 : 2 + 2 * (i : Int) < 13 := by omega
   have z3 : (2 + 2 * (i : Int)).toNat = 2 + 2 * i := by omega
   rw [show 1 + 2 * i + 1 = 2 + 2 * i by omega,drop_at ht] at hpf
   subst hwv
   rw [h13]
   by_cases hk35 : rkind t = 35
   ·obtain ⟨nn,rfl⟩ : ∃ n,t = .num n := by cases t <;> simp [rkind] at hk35 ⊢
    simp only [rkind] at t0
    simp only [numOf] at t2
    simp only [pNum] at hpf
    rw [hpf] at hres0
    rw [hres0] at hres
    simp (disch := first|omega|(simp only [zS];first|done|omega)) [l24_11,r24_6,hi6',r24_7,wa,wb,wc,g4,hrow,hl6,h13 ▸ e1,aUn,z1,z2,z3,hg,hl1,t0,r24_9,hl4,t2,g5,hl5,r24_10,wi]
    rw [hrow5]
    have main := ih (i + 1) (acc ++ [nn]) (g.setIfInBounds B5 (.cells ((acc ++ [nn] ++ List.replicate (6 - (i + 1)) 0).map vi) 0 true [])) (by omega) (by omega) (by simp [hacc]) (kept_set hk (by omega)) (by rw [set_other (by omega)];exact g2) (by rw [set_other (by omega)];exact g4) (by simp (disch := first|omega|(simp only [zS];first|done|omega)) []) ?_ fuel (by omega)
    ·rw [h13] at main
     exact main
    ·rw [hres,show 1 + 2 * (i + 1) = 2 + 2 * i + 1 by omega]
     simp only [Option.map_map]
     congr 2
     funext q;simp [List.append_assoc]
   ·have hkb : (rkind t != 35) = true := by simpa using hk35
    have hb : pNum (t :: ws.drop (2 + 2 * i + 1)) = none := by cases t <;> first | rfl | exact absurd rfl hk35
    rw [hb] at hpf
    rw [hpf] at hres0
    rw [hres0] at hres
    simp (disch := first|omega|(simp only [zS];first|done|omega)) [l24_11,r24_6,hi6',r24_7,wa,wb,wc,g4,hrow,hl6,h13 ▸ e1,aUn,z1,z2,z3,hg,hl1,t0,hkb,r24_8,g2,zer,RS24]
    exact Ans.of ⟨kept_set hk h2,by rw [hres];rfl⟩
theorem rrules_spec {wv : Value} {ws : List Tok} (hW : RW h wv ws) (hF : 100 < F) : Ans (cf p (F + 2) 24 [wv] h) fun w h' => RRulesQ (pRules ws) h w h' := by
 rw [cf_step (a := a24) rfl rfl (by simp [a24])]
 have k0 := rowKept h zer 0 []
 have k1 := rowKept (Ev.newRow h zer 0 []) (ruleWords.map vs) 1 []
 have b2 : hget (Ev.newRow (Ev.newRow h zer 0 []) (ruleWords.map vs) 1 []) h.size = some (.cells zer 0 true []) := by simp
 have b4 : hget (Ev.newRow (Ev.newRow h zer 0 []) (ruleWords.map vs) 1 []) (h.size + 1) = some (.cells (ruleWords.map vs) 1 true []) := by simp
 have z : (Ev.newRow (Ev.newRow h zer 0 []) (ruleWords.map vs) 1 []).size = h.size + 2 := by simp
 have e0 : Ev.newRow (Ev.newRow h [vi 0,vi 0,vi 0,vi 0,vi 0,vi 0] 0 []) [.string str110_111_100_101_115,.string str99_108_105_101_110_116_115,.string str113_117_101_117_101,.string str114_105_110_103,.string str119_105_110_100_111_119,.string str108_101_97_115_101] 1 [] = Ev.newRow (Ev.newRow h zer 0 []) (ruleWords.map vs) 1 [] := rfl
 have hlen := hW.1.len
 have W := hW.kept (k0.trans k1)
 have hk := k0.trans k1
 have e1 := isName_eq (p := p) (F := F) W 0 (by omega) w_world
 simp at e1
 simp (disch := first|omega|(simp only [zS];first|done|omega)) [a24,r24_0,r24_1]
 rw [e0]
 generalize Ev.newRow (Ev.newRow h zer 0 []) (ruleWords.map vs) 1 [] = g at *
 have s2 := lt_of_get b2
 by_cases h13 : ws.length = 13
 ·have hne : ((ws.length : Int) != 13) = false := by simp [h13]
  cases hn : isN ws 0 w_world with
  | false =>
   rw [hn] at e1
   have hres : pRules ws = none := by
    rw [rulesOf_pRules]
    have := pis_r ws 0 w_world
    rw [hn] at this
    simp at this
    rw [this]
   rw [hres]
   simp (disch := first|omega|(simp only [zS];first|done|omega)) [r24_2,hlen,hne,lit_world,e1,aUn,r24_3,b2,zer]
   exact Ans.of ⟨kept_set hk (Nat.le_refl _),rfl⟩
  | true =>
   rw [hn] at e1
   have hres : pRules ws = rulesOf (pFields ruleWords (ws.drop 1)) := by
    rw [rulesOf_pRules]
    have := pis_r ws 0 w_world
    rw [hn] at this
    simp only [List.drop_zero,if_true] at this
    rw [this]
   have k5 := rowKept g zer 0 []
   have main := rrules_loop (p := p) (F := F) h wv ws hW h13 h.size (h.size + 1) g.size (Nat.le_refl _) (by omega) (by omega) (pRules ws) 6 0 [] (Ev.newRow g zer 0 []) rfl (by omega) rfl (hk.trans k5) ((k5.get s2 (by simp)).trans b2) ((k5.get (by omega) (by simp)).trans b4) (by simp;rfl) ?_ (F + 1) (by omega)
   ·have e5 : Ev.newRow g [vi 0,vi 0,vi 0,vi 0,vi 0,vi 0] 0 [] = Ev.newRow g zer 0 [] := rfl
    simp (disch := first|omega|(simp only [zS];first|done|omega)) [r24_2,hlen,hne,lit_world,e1,aUn,r24_4,r24_5]
    rw [e5]
    exact main
   ·rw [hres]
    show rulesOf (pFields ruleWords (ws.drop 1)) = rulesOf ((pFields ruleWords (ws.drop 1)).map fun q => ([] ++ q.1,q.2))
    cases pFields ruleWords (ws.drop 1) with
    | none => rfl
    | some q => rfl
 ·have hne : ((ws.length : Int) != 13) = true := by simp;omega
  rw [rules_len h13]
  simp (disch := first|omega|(simp only [zS];first|done|omega)) [r24_2,hlen,hne,r24_3,b2,zer]
  exact Ans.of ⟨kept_set hk (Nat.le_refl _),rfl⟩
end Go.Proofs.YtnoghchcboiojaaGreatDoor
end
section
set_option maxRecDepth 100000
namespace Go.Proofs.YtnoghchcboiojaaGreatDoor
open Go.Ev
open Go.Rn (Bs Tok Ru St pLines PRes lex)
variable {p : Bool} {F : Nat} {h : H}
theorem splitL_mid : ∀ (a b : Bs),(∀ c ∈ a,c ≠ 10) → Rn.splitL (a ++ 10 :: b) = a :: Rn.splitL b
 | [],b,_ => by simp [Rn.splitL]
 | c :: a,b,h => by
  have hc := h c (by simp)
  have ih := splitL_mid a b fun x hx => h x (by simp [hx])
  simp only [List.cons_append,Rn.splitL,if_neg hc,ih]
theorem splitL_last : ∀ (a : Bs),(∀ c ∈ a,c ≠ 10) → Rn.splitL a = [a]
 | [],_ => rfl
 | c :: a,h => by
  have hc := h c (by simp)
  have ih := splitL_last a fun x hx => h x (by simp [hx])
  simp only [Rn.splitL,if_neg hc,ih]
def LS (t : Bs) (st : Nat) : List Bs := if st ≤ t.length then Rn.splitL (t.drop st) else []
theorem LS_end {t : Bs} {st : Nat} (hst : st ≤ t.length) (hno : ∀ c ∈ (t.drop st).take (t.length - st),c ≠ 10) : LS t st = (t.drop st).take (t.length - st) :: LS t (t.length + 1) := by
 have e : (t.drop st).take (t.length - st) = t.drop st := List.take_of_length_le (by simp)
 rw [e] at hno ⊢
 have h1 : ¬ t.length + 1 ≤ t.length := by omega
 simp only [LS,if_pos hst,if_neg h1]
 exact splitL_last _ hno
theorem LS_nl {t : Bs} {st i : Nat} (hst : st ≤ i) (hi : t[i]? = some 10) (hno : ∀ c ∈ (t.drop st).take (i - st),c ≠ 10) : LS t st = (t.drop st).take (i - st) :: LS t (i + 1) := by
 have hil := (List.getElem?_eq_some_iff.1 hi).1
 have e : t.drop st = (t.drop st).take (i - st) ++ 10 :: t.drop (i + 1) := by
  have h1 : (t.drop st).drop (i - st) = 10 :: t.drop (i + 1) := by
   rw [List.drop_drop,show st + (i - st) = i by omega];exact drop_cons hi
  rw [← h1,List.take_append_drop]
 have h1 : st ≤ t.length := by omega
 have h2 : i + 1 ≤ t.length := by omega
 simp only [LS,if_pos h1,if_pos h2]
 conv => lhs;rw [e]
 exact splitL_mid _ _ hno
def E10 (p : Bool) (F : Nat) : K := evC (F + 6) (cxOf (cf p (F + 6)) (cfX XD) [.cellN 2 6,.tmp 3,.tmp 4,.tmp 5]) (.seq (.seq (.region r10_30 [2,6,7,84]) (.cond (.tmp 84) (.seq (.region r10_31 [2,3,4,5]) .ret) .skip)) (.seq (.region r10_32 [2,3,4,5]) .ret)) (endK (cfX XD) [.cellN 2 6,.tmp 3,.tmp 4,.tmp 5]) noK (endK (cfX XD) [.cellN 2 6,.tmp 3,.tmp 4,.tmp 5])
theorem E10_eq {s : Env} {g : H} {ds : Ds} : E10 p F s g ds = evC (F + 6) (cxOf (cf p (F + 6)) (cfX XD) [.cellN 2 6,.tmp 3,.tmp 4,.tmp 5]) (.seq (.seq (.region r10_30 [2,6,7,84]) (.cond (.tmp 84) (.seq (.region r10_31 [2,3,4,5]) .ret) .skip)) (.seq (.region r10_32 [2,3,4,5]) .ret)) (endK (cfX XD) [.cellN 2 6,.tmp 3,.tmp 4,.tmp 5]) noK (endK (cfX XD) [.cellN 2 6,.tmp 3,.tmp 4,.tmp 5]) s g ds := nr rfl
theorem E10_spec {h0 g : H} {B2 B6 : Nat} {bg : Option Ru} {sv : Value} {xs : List Stp} {e : Env} {tv : Value} (hk : Kept h0 g []) (h2 : h0.size ≤ B2) (h26 : B2 < B6) (g2 : hget g B2 = some (.cells zer 0 true [])) (g6 : hget g B6 = some (.cells (bgC bg) 0 true []))
  (hS : StepsAt (B6 + 1) g sv xs) (hn : xs.length ≤ 400) :
  Ans (E10 p F ((0,tv) :: (2,.pointer (some ⟨B2,0,none⟩)) :: (6,.pointer (some ⟨B6,0,none⟩)) :: (7,sv) :: (8,.bool bg.isSome) :: e) g []) fun w h' => ParseQ (endR bg (xs.map fun x => x.1)) h0 w h' := by
 have s2 := lt_of_get g2
 rw [E10_eq]
 cases bg with
 | none =>
  simp (disch := first|omega|(simp only [zS];first|done|omega)) [r10_30,aUn,Option.isSome,r10_31,g2,zer]
  exact Ans.of ⟨kept_set hk h2,rfl⟩
 | some r =>
  have h1w := hS.1.sl.one
  have hvc := hS.1.sl.vc
  unfold oneCell at h1w
  unfold vcells at hvc
  simp (disch := first|omega|(simp only [zS];first|done|omega)) [r10_30,aUn,Option.isSome,r10_32,g2,g6,zer,bgC,ruC,h1w,hvc]
  refine Ans.of ⟨kept_set hk h2,sv,xs,rfl,hn,rfl,?_⟩
  exact (hS.kept (L := [B2]) (kept_in (by simp)) (by simp;omega)).low (by omega)
end Go.Proofs.YtnoghchcboiojaaGreatDoor
end
section
set_option maxRecDepth 100000
namespace Go.Proofs.YtnoghchcboiojaaGreatDoor
open Go.Ev
open Go.Rn (Bs Tok Ru St pLines PRes lex)
variable {p : Bool} {F : Nat} {h : H}
def L10 (p : Bool) (F : Nat) (fuel : Nat) : K := loopK (F + 6) (cxOf (cf p (F + 6)) (cfX XD) [.cellN 2 6,.tmp 3,.tmp 4,.tmp 5]) [0,2,6,7,8,9,10,11] l10_29 (putK 0 (E10 p F) noK) (endK (cfX XD) [.cellN 2 6,.tmp 3,.tmp 4,.tmp 5]) fuel
theorem L10_succ {n : Nat} {s : Env} {g : H} {ds : Ds} : L10 p F (n + 1) s g ds = evC (F + 6) (cxOf (cf p (F + 6)) (cfX XD) [.cellN 2 6,.tmp 3,.tmp 4,.tmp 5]) l10_29 (keepK [0,2,6,7,8,9,10,11] (L10 p F n)) (putK 0 (E10 p F) noK) (endK (cfX XD) [.cellN 2 6,.tmp 3,.tmp 4,.tmp 5]) s g ds := loopK_succ
theorem rparse_loop (h0 : H) (hG : GloR h0) (t : Bs) (ht : t.length ≤ 65536) (hF : 100000 < F) (B2 B6 : Nat) (h2 : h0.size ≤ B2) (h26 : B2 < B6) (res : PRes) :
  ∀ (m i st row : Nat) (bg : Option Ru) (sv : Value) (xs : List Stp) (g : H),m = t.length + 1 - i → i ≤ t.length + 1 → st ≤ i → row ≤ i → (i = t.length + 1 → st = t.length + 1) → (∀ c ∈ (t.drop st).take (i - st),c ≠ 10) → Kept h0 g [] →
   hget g B2 = some (.cells zer 0 true []) → hget g B6 = some (.cells (bgC bg) 0 true []) → B6 < g.size → StepsAt (B6 + 1) g sv xs → xs.length ≤ 400 → res = pLines (LS t st) row bg (xs.map fun x => x.1) → ∀ fuel,m < fuel →
   Ans (L10 p F fuel [(0,vs t),(2,.pointer (some ⟨B2,0,none⟩)),(6,.pointer (some ⟨B6,0,none⟩)),(7,sv),(8,.bool bg.isSome),(9,vi row),(10,vi st),(11,vi i)] g []) fun w h' => ParseQ res h0 w h' := by
 intro m
 induction m with
 | zero =>
  intro i st row bg sv xs g hm hi hst hrow hend hno hk g2 g6 hb6 hS hn hres fuel hfu
  obtain ⟨fuel,rfl⟩ : ∃ f',fuel = f' + 1 := ⟨fuel - 1,by omega⟩
  have e : i = t.length + 1 := by omega
  have est := hend e
  subst est
  subst e
  have hr : res = endR bg (xs.map fun x => x.1) := by
   rw [hres]
   have : ¬ t.length + 1 ≤ t.length := by omega
   simp only [LS,if_neg this]
   cases bg <;> rfl
  rw [L10_succ,hr]
  have hnl : ¬ ((t.length : Int) + 1 ≤ t.length) := by omega
  simp (disch := first|omega|(simp only [zS];first|done|omega)) [l10_29,r10_9,hnl]
  exact E10_spec hk h2 h26 g2 g6 hS hn
 | succ m ih =>
  intro i st row bg sv xs g hm hi hst hrow hend hno hk g2 g6 hb6 hS hn hres fuel hfu
  obtain ⟨fuel,rfl⟩ : ∃ f',fuel = f' + 1 := ⟨fuel - 1,by omega⟩
  have hil : i ≤ t.length := by omega
  have hil' : (i : Int) ≤ t.length := by omega
  have wi : IntKind.i64.wrap ((i : Int) + 1) = (i : Int) + 1 := wrap_in (by omega) (by omega)
  have wr : IntKind.i64.wrap ((row : Int) + 1) = (row : Int) + 1 := wrap_in (by omega) (by omega)
  have h1w := hS.1.sl.one
  have hvc := hS.1.sl.vc
  unfold oneCell at h1w
  unfold vcells at hvc
  have slen := hS.1.sl.len
  have s2 := lt_of_get g2
  rw [L10_succ]
  by_cases hmid : ∃ c,t[i]? = some c ∧ c ≠ 10
  ·obtain ⟨c,hc,hc10⟩ := hmid
   have hlt := (List.getElem?_eq_some_iff.1 hc).1
   have hlt' : (i : Int) < t.length := by omega
   have g1 : atS (ofB t) (i : Int) g = some (.int .u8 c.toNat,g) := atS_ofB hc
   simp (disch := first|omega|(simp only [zS];first|done|omega)) [l10_29,r10_9,hil',r10_10,hlt',g1,hc10,r10_28,wi]
   have main := ih (i + 1) st row bg sv xs g (by omega) (by omega) (by omega) (by omega) (by omega) ?_ hk g2 g6 hb6 hS hn hres fuel (by omega)
   ·exact main
   ·intro x hx
    rw [show i + 1 - st = (i - st) + 1 by omega,List.take_add_one,List.getElem?_drop,show st + (i - st) = i by omega,hc] at hx
    rcases List.mem_append.1 hx with hx | hx
    ·exact hno x hx
    ·simp at hx;subst hx;exact hc10
  ·have hline : LS t st = (t.drop st).take (i - st) :: LS t (i + 1) := by
    cases hc : t[i]? with
    | none =>
     have : i = t.length := by have := List.getElem?_eq_none_iff.1 hc;omega
     subst this
     exact LS_end hst hno
    | some c =>
     have : c = 10 := Classical.byContradiction fun q => hmid ⟨c,hc,q⟩
     subst this
     exact LS_nl hst hc hno
   have c34 : ∀ x,(if (i : Int) < t.length then x else false) = x ∨ True := fun _ => .inr trivial
   have hcut : ∀ g,cutS (ofB t) st i g = some (vs ((t.drop st).take (i - st)),g) := fun g => cutS_ofB hst hil
   have hll : ((t.drop st).take (i - st)).length ≤ 65536 := by rw [List.length_take,List.length_drop];omega
   generalize (t.drop st).take (i - st) = a at *
   rw [hline] at hres
   have e1 := rwords_spec (p := p) (F := F + 1) (h := g) a (by omega) (by omega)
   have look : ∀ (kn : K),evR (cxOf (cf p (F + 6)) (cfX XD) [.cellN 2 6,.tmp 3,.tmp 4,.tmp 5]) r10_10 [(0,vs t),(2,.pointer (some ⟨B2,0,none⟩)),(6,.pointer (some ⟨B6,0,none⟩)),(7,sv),(8,.bool bg.isSome),(9,vi row),(10,vi st),(11,vi i),(22,.bool true)] g kn [0,2,6,7,8,9,10,11,34] [] =
     kn [(0,vs t),(2,.pointer (some ⟨B2,0,none⟩)),(6,.pointer (some ⟨B6,0,none⟩)),(7,sv),(8,.bool bg.isSome),(9,vi row),(10,vi st),(11,vi i),(34,.bool false)] g [] := by
    intro kn
    by_cases hlt : (i : Int) < t.length
    ·have hc : t[i]? = some 10 := by
      obtain ⟨c,hc⟩ : ∃ c,t[i]? = some c := ⟨_,List.getElem?_eq_getElem (by omega)⟩
      have : c = 10 := Classical.byContradiction fun q => hmid ⟨c,hc,q⟩
      rw [this] at hc;exact hc
     have g1 : atS (ofB t) (i : Int) g = some (.int .u8 (10 : UInt8).toNat,g) := atS_ofB hc
     simp (disch := first|omega|(simp only [zS];first|done|omega)) [r10_10,hlt,g1]
    ·simp (disch := first|omega|(simp only [zS];first|done|omega)) [r10_10,hlt]
   simp (disch := first|omega|(simp only [zS];first|done|omega)) [l10_29,r10_9,hil',look,r10_11,wr,r10_12,pcS_eq,hcut]
   refine Ans.nextC e1 ?_
   rintro w g3 ⟨k3,Q⟩
   have hk3 := hk.trans k3
   have g23 := (k3.get s2 (by simp)).trans g2
   have g63 := (k3.get hb6 (by simp)).trans g6
   have t2 := lt_of_get g23
   have t6 := lt_of_get g63
   have hS3 := hS.kept k3 (by simp)
   have nx : ∀ (bg' : Option Ru) (sv' : Value) (xs' : List Stp) (g' : H),Kept h0 g' [] → hget g' B2 = some (.cells zer 0 true []) → hget g' B6 = some (.cells (bgC bg') 0 true []) → StepsAt (B6 + 1) g' sv' xs' → xs'.length ≤ 400 → res = pLines (LS t (i + 1)) (row + 1) bg' (xs'.map fun x => x.1) →
     Ans (L10 p F fuel [(0,vs t),(2,.pointer (some ⟨B2,0,none⟩)),(6,.pointer (some ⟨B6,0,none⟩)),(7,sv'),(8,.bool bg'.isSome),(9,vi ((row : Int) + 1)),(10,vi ((i : Int) + 1)),(11,vi ((i : Int) + 1))] g' []) fun w h' => ParseQ res h0 w h' :=
    fun bg' sv' xs' g' q1 q2 q3 q5 q6 q7 => ih (i + 1) (i + 1) (row + 1) bg' sv' xs' g' (by omega) (by omega) (by omega) (by omega) (by omega) (by simp) q1 q2 q3 (lt_of_get q3) q5 q6 q7 fuel (by omega)
   cases hx : lex a with
   | none =>
    rw [hx] at Q
    simp only at Q
    subst Q
    have hr : res = .bad (row + 1) := by rw [hres];simp only [pLines,hx]
    rw [hr]
    simp (disch := first|omega|(simp only [zS];first|done|omega)) [List.getElem?_cons_zero,List.getElem?_cons_succ,r10_13,wi,r10_14,aUn,r10_15,g23,zer]
    exact Ans.of ⟨kept_set hk3 h2,rfl⟩
   | some ts =>
    rw [hx] at Q
    obtain ⟨tv,rfl,Q1,Q2⟩ := Q
    have R : RW g3 tv ts := ⟨Q1.sl.imp (fun b hb _ => hb) (fun _ _ _ q => q) fun _ _ _ e => e,by omega⟩
    have hlen := R.1.len
    cases ts with
    | nil =>
     have hr : res = pLines (LS t (i + 1)) (row + 1) bg (xs.map fun x => x.1) := by rw [hres];simp only [pLines,hx]
     simp (disch := first|omega|(simp only [zS];first|done|omega)) [List.getElem?_cons_zero,List.getElem?_cons_succ,r10_13,wi,r10_14,aUn,r10_16,hlen,r10_28]
     exact nx bg sv xs g3 hk3 g23 g63 hS3 hn hr
    | cons t0 ts =>
     have hne : ((ts.length : Int) + 1 == 0) = false := by simp;omega
     cases bg with
     | none =>
      have e4 := rrules_spec (p := p) (F := F + 4) R (by omega)
      simp (disch := first|omega|(simp only [zS];first|done|omega)) [List.getElem?_cons_zero,List.getElem?_cons_succ,r10_13,wi,r10_14,aUn,r10_16,hlen,hne,r10_17,Option.isSome,r10_18]
      refine Ans.nextC e4 ?_
      rintro w4 g4 ⟨k4,Q⟩
      have hk4 := hk3.trans k4
      have g24 := (k4.get t2 (by simp)).trans g23
      have g64 := (k4.get t6 (by simp)).trans g63
      have u2 := lt_of_get g24
      have u6 := lt_of_get g64
      have hS4 := hS3.kept k4 (by simp)
      cases hp : Rn.pRules (t0 :: ts) with
      | none =>
       rw [hp] at Q
       simp only at Q
       subst Q
       have hr : res = .bad (row + 1) := by rw [hres];simp only [pLines,hx,hp]
       rw [hr]
       simp (disch := first|omega|(simp only [zS];first|done|omega)) [List.getElem?_cons_zero,List.getElem?_cons_succ,g64,bgC,zer,r10_19,r10_20,aUn,r10_21,g24]
       exact Ans.of ⟨kept_set (kept_set hk4 (by omega)) h2,rfl⟩
      | some ru =>
       rw [hp] at Q
       simp only at Q
       subst Q
       have hr : res = pLines (LS t (i + 1)) (row + 1) (some ru) (xs.map fun x => x.1) := by rw [hres];simp only [pLines,hx,hp]
       simp (disch := first|omega|(simp only [zS];first|done|omega)) [List.getElem?_cons_zero,List.getElem?_cons_succ,ruC,g64,bgC,zer,r10_19,r10_20,aUn,r10_28,wi]
       refine nx (some ru) sv xs _ (kept_set hk4 (by omega)) ?_ ?_ ?_ hn hr
       ·rw [set_other (by omega)];exact g24
       ·simp (disch := first|omega|(simp only [zS];first|done|omega)) [bgC,ruC]
       ·exact hS4.kept (L := [B6]) (kept_in (by simp)) (by simp)
     | some r0 =>
      have e4 := rstep_spec (p := p) (F := F) (hG.kept hk3) R (by omega)
      simp (disch := first|omega|(simp only [zS];first|done|omega)) [List.getElem?_cons_zero,List.getElem?_cons_succ,r10_13,wi,r10_14,aUn,r10_16,hlen,hne,r10_17,Option.isSome,r10_22]
      refine Ans.nextC e4 ?_
      rintro w4 g4 ⟨k4,st4,ov4,b4,rfl,q2,q3⟩
      have hk4 := hk3.trans k4
      have g24 := (k4.get t2 (by simp)).trans g23
      have g64 := (k4.get t6 (by simp)).trans g63
      have ow := q2.sl.one
      have ovc := q2.sl.vc
      unfold oneCell at ow
      unfold vcells at ovc
      have k5 := rowKept g4 (stC st4 ov4) 0 []
      have b14 : hget (Ev.newRow g4 (stC st4 ov4) 0 []) g4.size = some (.cells (stC st4 ov4) 0 true []) := by simp
      have hx4 : Bld (fun c => g3.size ≤ c ∧ c < g4.size) 5 OpR g4 ov4 st4.ops := q2.imp fun b hb q => ⟨q,hb⟩
      have hk5 := hk4.trans k5
      have g25 := (k5.get (lt_of_get g24) (by simp)).trans g24
      have g65 := (k5.get (lt_of_get g64) (by simp)).trans g64
      have hput := hS3.put k4 k5 (by omega) (Nat.le_refl g3.size) k4.1 (Nat.le_refl _) hx4
      have eq1 : Ev.newRow g4 [vi st4.kind,vi st4.a,vi st4.b,vi st4.c,vs st4.place,ov4] 0 [] = Ev.newRow g4 (stC st4 ov4) 0 [] := rfl
      simp (disch := first|omega|(simp only [zS];first|done|omega)) [List.getElem?_cons_zero,List.getElem?_cons_succ,stC,ovc,ow,r10_23,aUn]
      rw [eq1]
      generalize Ev.newRow g4 (stC st4 ov4) 0 [] = g5 at *
      have u2 := lt_of_get g25
      have u6 := lt_of_get g65
      cases b4 with
      | false =>
       have hr : res = .bad (row + 1) := by rw [hres];simp only [pLines,hx,q3];rfl
       rw [hr]
       simp (disch := first|omega|(simp only [zS];first|done|omega)) [r10_24,g25,zer]
       exact Ans.of ⟨kept_set hk5 h2,rfl⟩
      | true =>
       simp only [if_true] at q3
       by_cases h400 : xs.length = 400
       ·have hq : ((xs.length : Int) == 400) = true := by simp [h400]
        have hr : res = .long (row + 1) := by rw [hres];simp only [pLines,hx,q3];simp [h400]
        rw [hr]
        simp (disch := first|omega|(simp only [zS];first|done|omega)) [r10_25,slen,hq,r10_26,g25,zer]
        exact Ans.of ⟨kept_set hk5 h2,rfl⟩
       ·have hq : ((xs.length : Int) == 400) = false := by simp;omega
        have hput' := hput (by omega)
        clear hput
        obtain ⟨sv',g6',e6,f1,f2,f3⟩ := hput'
        simp only [stC] at b14 e6
        have w1 := f1.1.sl.one
        unfold oneCell at w1
        have nok : ∀ c,c < B6 + 1 → c < g5.size → hget g6' c = hget g5 c := fun c hc hs => f3 c hs fun q => by have := q.1;omega
        have hr : res = pLines (LS t (i + 1)) (row + 1) (some r0) ((xs.map fun x => x.1) ++ [st4]) := by rw [hres];simp only [pLines,hx,q3];simp [h400]
        simp (disch := first|omega|(simp only [zS];first|done|omega)) [r10_25,slen,hq,r10_27,b14,ovc,ow,srcOf,isText,e6,r10_28,wi]
        clear wi wr
        refine nx (some r0) sv' (xs ++ [(st4,g3.size,g4.size)]) g6' (kept_of hk5 f2 fun b hb => nok b (by omega) (by have := hk5.1;omega)) ?_ ?_ f1 (by simp;omega) (by rw [hr];simp)
        ·rw [nok _ (by omega) u2];exact g25
        ·rw [nok _ (by omega) u6];exact g65
end Go.Proofs.YtnoghchcboiojaaGreatDoor
end
section
set_option maxRecDepth 100000
namespace Go.Proofs.YtnoghchcboiojaaGreatDoor
open Go.Ev
open Go.Rn (Bs Tok Ru St pLines PRes lex)
variable {p : Bool} {F : Nat} {h : H}
theorem rparse_spec (t : Bs) (hG : GloR h) (hF : 100000 < F) : Ans (cf p (F + 7) 10 [vs t] h) fun w h' => ParseQ (Rn.parse t) h w h' := by
 rw [cf_step (a := a10) rfl rfl (by simp [a10])]
 have k2 := rowKept h zer 0 []
 have e2 : Ev.newRow h [vi 0,vi 0,vi 0,vi 0,vi 0,vi 0] 0 [] = Ev.newRow h zer 0 [] := rfl
 by_cases hl : (65536 : Int) < t.length
 ·have hp : Rn.parse t = .long 0 := by unfold Rn.parse;rw [if_pos (by omega)]
  rw [hp]
  simp (disch := first|omega|(simp only [zS];first|done|omega)) [a10,r10_0,r10_1,r10_2,hl]
  exact Ans.of ⟨k2,rfl⟩
 ·have hp : Rn.parse t = pLines (LS t 0) 0 none [] := by unfold Rn.parse;rw [if_neg (by omega)];rfl
  rw [hp]
  have k3 := k2.trans (rowKept (Ev.newRow h zer 0 []) zer 0 [])
  have b2 : hget (Ev.newRow (Ev.newRow h zer 0 []) zer 0 []) h.size = some (.cells zer 0 true []) := by simp
  have b6 : hget (Ev.newRow (Ev.newRow h zer 0 []) zer 0 []) (h.size + 1) = some (.cells (bgC none) 0 true []) := by simp [bgC]
  have e3 : Ev.newRow (Ev.newRow h [vi 0,vi 0,vi 0,vi 0,vi 0,vi 0] 0 []) [vi 0,vi 0,vi 0,vi 0,vi 0,vi 0] 0 [] = Ev.newRow (Ev.newRow h zer 0 []) zer 0 [] := rfl
  have z : (Ev.newRow (Ev.newRow h zer 0 []) zer 0 []).size = h.size + 2 := by simp
  simp (disch := first|omega|(simp only [zS];first|done|omega)) [a10,r10_0,r10_1,hl,r10_3,r10_4,r10_5,r10_6,r10_7,r10_8]
  rw [e3]
  have main := rparse_loop (p := p) (F := F) h hG t (by omega) hF h.size (h.size + 1) (Nat.le_refl _) (by omega) (pLines (LS t 0) 0 none []) _ 0 0 0 none (.slice none 0 0) [] _ rfl (by omega) (Nat.le_refl _) (Nat.le_refl _) (by omega) (by simp) k3 b2 b6 (by omega) ⟨Bld.nil _ _ _ _,by simp,by simp⟩ (by simp) rfl (F + 6) (by omega)
  exact main
end Go.Proofs.YtnoghchcboiojaaGreatDoor
end
