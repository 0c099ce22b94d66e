/- Texts of the proofs over heraldlaw18, put together by a program (merge18c.py): Rw5 Ry0 Ry1 Ry2 Sx0 Sx1 Rq3 Rj0 Rj1 Rj2 Rj3 Rj4 Rj5 Rj6 Rj7 Rj8 Rj9 Rk0. -/
import Derived.Test.YtnoghchcboiojaaGreatDoorPD11
import Derived.Test.YtnoghchcboiojaaGreatDoorPC0
import Derived.Test.YtnoghchcboiojaaGreatDoorPD10
set_option linter.unusedVariables false
set_option linter.unusedSimpArgs false
section
set_option maxRecDepth 100000
namespace Go.Proofs.YtnoghchcboiojaaGreatDoor
open Go.Ev
open Go.Rn (Bs Ar St stepTab stT argT stRes clrS joinW placed quote numT w_node w_kids w_subtree)
variable {p : Bool} {F : Nat} {h : H}
def Wat (h : H) : Prop := ∃ rest es lv an,hget h 1 = some (.cells (vs [] :: vs w_node :: vs w_kids :: vs w_subtree :: rest) es lv an)
theorem Wat.kept {h' : H} (g : Wat h) (k : Kept h h' []) : Wat h' := by
 obtain ⟨rest,es,lv,an,e⟩ := g
 exact ⟨rest,es,lv,an,(k.get (lt_of_get e) (by simp)).trans e⟩
theorem Glo.wat (g : Glo h) : Wat h := ⟨[],_,_,_,g.watches⟩
def E32 (p : Bool) (F : Nat) : K := evC (F + 7) (cxOf (cf p (F + 7)) (cfX XD) [.tmp 2]) (.seq (.seq (.region r32_24 [5,112]) (.cond (.tmp 112) (.region r32_25 [5]) .skip)) (.seq (.region r32_26 [2]) .ret)) (endK (cfX XD) [.tmp 2]) noK (endK (cfX XD) [.tmp 2])
theorem E32_eq {s : Env} {g : H} {ds : Ds} : E32 p F s g ds = evC (F + 7) (cxOf (cf p (F + 7)) (cfX XD) [.tmp 2]) (.seq (.seq (.region r32_24 [5,112]) (.cond (.tmp 112) (.region r32_25 [5]) .skip)) (.seq (.region r32_26 [2]) .ret)) (endK (cfX XD) [.tmp 2]) noK (endK (cfX XD) [.tmp 2]) s g ds := nr rfl
def L32 (p : Bool) (F : Nat) (fuel : Nat) : K := loopK (F + 7) (cxOf (cf p (F + 7)) (cfX XD) [.tmp 2]) [1,4,5,19] l32_23 (putK 0 (E32 p F) noK) (endK (cfX XD) [.tmp 2]) fuel
theorem L32_succ {n : Nat} {s : Env} {g : H} {ds : Ds} : L32 p F (n + 1) s g ds = evC (F + 7) (cxOf (cf p (F + 7)) (cfX XD) [.tmp 2]) l32_23 (keepK [1,4,5,19] (L32 p F n)) (putK 0 (E32 p F) noK) (endK (cfX XD) [.tmp 2]) s g ds := loopK_succ
def lfV (ov : Value) (lf : St) : Value := if lf.ops = [] then .slice none 0 0 else ov
theorem stepTab_len' {q : Bs × List Ar} (h : q ∈ stepTab) : q.2.length ≤ 3 ∧ q.1.length ≤ 7 := Rn.stepTab_len q h
theorem stRes_bad {s lf : St} {acc : List Bs} {y : Ar} {l : List Ar} (h : argT s y = none) : stRes s lf acc (y :: l) = none := by rw [Rn.stRes_cons,h]
theorem stRes_ok {s lf : St} {acc : List Bs} {t : Bs} {y : Ar} {l : List Ar} (h : argT s y = some t) : stRes s lf acc (y :: l) = stRes s (clrS lf y) (acc ++ [t]) l := by rw [Rn.stRes_cons,h]
theorem st_zero (lf : St) : (decide (lf.a ≠ 0) || decide (lf.b ≠ 0) || decide (lf.c ≠ 0) || decide (lf.place ≠ []) || decide (lf.ops ≠ [])) = !decide ({ lf with kind := 0 } = ({} : St)) := by
 obtain ⟨k,a,b,c,pl,o⟩ := lf
 by_cases h1 : a = 0 <;> by_cases h2 : b = 0 <;> by_cases h3 : c = 0 <;> by_cases h4 : pl = [] <;> by_cases h5 : o = [] <;> simp [h1,h2,h3,h4,h5]
set_option maxHeartbeats 1000000 in
theorem stT_loop (s : St) (ov : Value) (l : List Ar) (hl : l.length ≤ 3) (B1 B4 B19 : Nat) (hF : 300 < F) (h0 : H) (hb1 : h0.size ≤ B1) (hb4 : B1 < B4) (hb19 : B4 < B19) (hG : Wat h0) (hov : OvR h0 ov s.ops) (text : Bs) (ht : text = l.map arB) (res : Option Bs) :
  ∀ (m : Nat) (q : Nat) (lf : St) (lo : Value) (acc : List Bs) (lv : Value) (g : H),m = l.length - q → q ≤ l.length → Kept h0 g [] → hget g B1 = some (.cells (stC s ov) 0 true []) → hget g B4 = some (.cells (stC lf lo) 0 true []) → lf.kind = 0 →
   (lo = ov ∧ lf.ops = s.ops ∨ lo = .slice none 0 0 ∧ lf.ops = []) →
   hget g B19 = some (.iter (ofB text) q) → Bld (fun b => B4 < b ∧ b ≠ B19) 1 TxR g lv acc → acc ≠ [] → acc.length ≤ q + 1 → (∀ w ∈ acc,w.length ≤ 40000) → res = stRes s lf acc (l.drop q) →
   ∀ fuel,m < fuel → Ans (L32 p F fuel [(1,.pointer (some ⟨B1,0,none⟩)),(4,.pointer (some ⟨B4,0,none⟩)),(5,lv),(19,.pointer (some ⟨B19,0,none⟩))] g []) fun w h' => Kept h0 h' [] ∧ w = offT res := by
 intro m
 induction m with
 | zero =>
  intro q lf lo acc lv g hm hq hk g1 g4 hkd hlo g19 hB hne hal hwl hres fuel hfu
  obtain ⟨fuel,rfl⟩ : ∃ f',fuel = f' + 1 := ⟨fuel - 1,by omega⟩
  have e : q = l.length := by omega
  subst e
  have n1 := nxS_end g19 (by rw [ht];simp)
  rw [List.drop_eq_nil_iff.2 (Nat.le_refl _),Rn.stRes_nil] at hres
  have hs4 := lt_of_get g4
  have e1 := fun g => fail_eq (p := p) (F := F + 6) (h := g)
  have hjl := Rn.joinW_len hwl
  have hj3 : acc.length * (40000 + 1) ≤ 4 * 40001 := Nat.mul_le_mul_right _ (by omega)
  have e2 := join_call (p := p) (F := F + 6) (sep := [32]) hB.sl hne (by omega) (by rw [Rn.joinW_lib];omega)
  rw [Rn.joinW_lib] at e2
  have hlen : lenV lo = some (.int .i64 lf.ops.length) := by
   rcases hlo with ⟨rfl,e⟩ | ⟨rfl,e⟩
   ·rw [e];exact hov.len
   ·rw [e];rfl
  rw [L32_succ]
  simp (disch := first|omega|(simp only [zS];first|done|omega)) [l32_23,r32_6,n1,List.getElem?_cons_zero]
  rw [E32_eq]
  by_cases za : lf.a = 0
  ·have xa : (lf.a != 0) = false := by simp [za]
   by_cases zb : lf.b = 0
   ·have xb : (lf.b != 0) = false := by simp [zb]
    by_cases zc : lf.c = 0
    ·have xc : (lf.c != 0) = false := by simp [zc]
     by_cases zp : lf.place = []
     ·have xp : (ofB lf.place != { data := #[] }) = false := by rw [show ({ data := #[] } : ByteArray) = ofB [] from rfl,ofB_bne];simp [zp]
      by_cases zo : lf.ops = []
      ·have xo : ((lf.ops.length : Int) != 0) = false := by simp [zo]
       have hz : lf = {} := by
        obtain ⟨k,a,b,c,pl,o⟩ := lf
        simp only at za zb zc zp zo hkd
        simp [za,zb,zc,zp,zo,hkd]
       simp (disch := first|omega|(simp only [zS];first|done|omega)) [r32_24,r32_26,g4,stC,xa,xb,xc,xp,hlen,xo,l_blank,e2]
       refine Ans.of ⟨hk,?_⟩
       rw [hres,if_pos hz];rfl
      ·have xo : ((lf.ops.length : Int) != 0) = true := by
        cases hq : lf.ops with
        | nil => exact absurd hq zo
        | cons a l => simp;omega
       simp (disch := first|omega|(simp only [zS];first|done|omega)) [r32_24,r32_25,g4,stC,xa,xb,xc,xp,hlen,xo,e1]
       refine Ans.of ⟨hk,?_⟩
       rw [hres,if_neg (fun q => zo (by rw [q]))];rfl
     ·have xp : (ofB lf.place != { data := #[] }) = true := by rw [show ({ data := #[] } : ByteArray) = ofB [] from rfl,ofB_bne];simp [zp]
      simp (disch := first|omega|(simp only [zS];first|done|omega)) [r32_24,r32_25,g4,stC,xa,xb,xc,xp,e1]
      refine Ans.of ⟨hk,?_⟩
      rw [hres,if_neg (fun q => zp (by rw [q]))];rfl
    ·have xc : (lf.c != 0) = true := by simpa using zc
     simp (disch := first|omega|(simp only [zS];first|done|omega)) [r32_24,r32_25,g4,stC,xa,xb,xc,e1]
     refine Ans.of ⟨hk,?_⟩
     rw [hres,if_neg (fun q => zc (by rw [q]))];rfl
   ·have xb : (lf.b != 0) = true := by simpa using zb
    simp (disch := first|omega|(simp only [zS];first|done|omega)) [r32_24,r32_25,g4,stC,xa,xb,e1]
    refine Ans.of ⟨hk,?_⟩
    rw [hres,if_neg (fun q => zb (by rw [q]))];rfl
  ·have xa : (lf.a != 0) = true := by simpa using za
   simp (disch := first|omega|(simp only [zS];first|done|omega)) [r32_24,r32_25,g4,stC,xa,e1]
   refine Ans.of ⟨hk,?_⟩
   rw [hres,if_neg (fun q => za (by rw [q]))];rfl
 | succ m ih =>
  intro q lf lo acc lv g hm hq hk g1 g4 hkd hlo g19 hB hne hal hwl hres fuel hfu
  obtain ⟨fuel,rfl⟩ : ∃ f',fuel = f' + 1 := ⟨fuel - 1,by omega⟩
  obtain ⟨y,ha⟩ : ∃ y,l[q]? = some y := ⟨_,List.getElem?_eq_getElem (by omega)⟩
  have hq' := (List.getElem?_eq_some_iff.1 ha).1
  have hta : text[q]? = some (arB y) := by rw [ht];simp [ha]
  have n1 := nxS_at g19 hta (arB_lt y)
  rw [drop_at ha] at hres
  have hs1 := lt_of_get g1
  have hs4 := lt_of_get g4
  have hs19 := lt_of_get g19
  have k0 : Kept h0 (g.setIfInBounds B19 (.iter (ofB text) (q + 1))) [] := kept_set hk (by omega)
  have g10 : hget (g.setIfInBounds B19 (.iter (ofB text) (q + 1))) B1 = some (.cells (stC s ov) 0 true []) := by rw [set_other (by omega)];exact g1
  have g40 : hget (g.setIfInBounds B19 (.iter (ofB text) (q + 1))) B4 = some (.cells (stC lf lo) 0 true []) := by rw [set_other (by omega)];exact g4
  have g190 : hget (g.setIfInBounds B19 (.iter (ofB text) (q + 1))) B19 = some (.iter (ofB text) (q + 1)) := by simp (disch := first|omega|(simp only [zS];first|done|omega)) []
  have hB0 : Bld (fun b => B4 < b ∧ b ≠ B19) 1 TxR (g.setIfInBounds B19 (.iter (ofB text) (q + 1))) lv acc := by
   have k : Kept g (g.setIfInBounds B19 (.iter (ofB text) (q + 1))) [B19] := ⟨by simp,fun c hc hn => by rw [set_other (fun e => hn (by simp [e]))]⟩
   exact hB.kept k (by simp) (fun _ _ _ q => q)
  rw [L32_succ]
  simp (disch := first|omega|(simp only [zS];first|done|omega)) [l32_23,r32_6,n1,List.getElem?_cons_zero,List.getElem?_cons_succ,r32_7,r32_8]
  clear n1
  have hs' : (g.setIfInBounds B19 (.iter (ofB text) (q + 1))).size = g.size := by simp
  generalize g.setIfInBounds B19 (.iter (ofB text) (q + 1)) = g' at *
  have e1 := fun g => fail_eq (p := p) (F := F + 6) (h := g)
  have fin : ∀ (t : Bs) (lo' : Value) (cs : List Value) (lv' : Value) (g'' : H),argT s y = some t → cs = stC (clrS lf y) lo' → (lo' = ov ∧ (clrS lf y).ops = s.ops ∨ lo' = .slice none 0 0 ∧ (clrS lf y).ops = []) → Kept h0 g'' [] → hget g'' B1 = hget g' B1 → hget g'' B19 = hget g' B19 → B19 < g''.size → B4 < g''.size → Bld (fun b => B4 < b ∧ b ≠ B19) 1 TxR g'' lv' (acc ++ [t]) →
    Ans (L32 p F fuel [(1,.pointer (some ⟨B1,0,none⟩)),(4,.pointer (some ⟨B4,0,none⟩)),(5,lv'),(19,.pointer (some ⟨B19,0,none⟩))] (g''.setIfInBounds B4 (.cells cs 0 true [])) []) fun w h' => Kept h0 h' [] ∧ w = offT res := by
   intro t lo' cs lv' g'' h1 h3 h3' h4 h5 h5' h7 h8 h6
   refine ih (q + 1) (clrS lf y) lo' (acc ++ [t]) lv' _ (by omega) (by omega) (kept_set h4 (by omega)) ?_ ?_ ?_ h3' ?_ ?_ (by simp) (by simp;omega) ?_ ?_ fuel (by omega)
   ·rw [set_other (by omega),h5];exact g10
   ·rw [h3];simp (disch := first|omega|(simp only [zS];first|done|omega)) []
   ·cases y <;> simp [clrS,hkd]
   ·rw [set_other (by omega),h5'];exact g190
   ·have k : Kept g'' (g''.setIfInBounds B4 (.cells cs 0 true [])) [B4] := ⟨by simp,fun c hc hn => by rw [set_other (fun e => hn (by simp [e]))]⟩
    exact h6.kept k (by simp) (fun _ _ _ q => q)
   ·intro w hw
    rcases List.mem_append.1 hw with q | q
    ·exact hwl w q
    ·simp at q;subst q;exact Rn.arg_len h1
   ·rw [hres,stRes_ok h1]
  have put3 : ∀ (t : Bs) (g3 : H),Kept g' g3 [] → ∃ v' h',appendTo (Ev.newRow g3 [vs t] 1 []) 1 16 lv 1 [vs t] = some (v',h') ∧ Bld (fun b => B4 < b ∧ b ≠ B19) 1 TxR h' v' (acc ++ [t]) ∧ Kept h0 h' [] ∧ hget h' B1 = hget g' B1 ∧ hget h' B19 = hget g' B19 ∧ B19 < h'.size ∧ B4 < h'.size ∧ hget h' B4 = hget g' B4 := by
   intro t g3 k3
   have z3 := k3.1
   obtain ⟨v',h',a1,a2,a3,a4⟩ := word_put (hB0.kept k3 (by simp) (fun _ _ _ q => q)) t (by omega) (by omega)
   have := a3.1
   exact ⟨v',h',a1,a2,kept_of (k0.trans k3) this (fun b hb => a4 b (by have := k0.1;omega) (by omega)),(a4 B1 (by omega) (by omega)).trans (k3.get (by omega) (by simp)),(a4 B19 (by omega) (by simp)).trans (k3.get (by omega) (by simp)),by omega,by omega,(a4 B4 (by omega) (by omega)).trans (k3.get (by omega) (by simp))⟩
  have put := fun t => put3 t g' (Kept.refl _ _)
  have bad : argT s y = none → res = none := fun e => by rw [hres,stRes_bad e]
  have hops' : (lo = ov ∧ lf.ops = s.ops ∨ lo = .slice none 0 0 ∧ lf.ops = []) := hlo
  cases y with
  | a =>
   have e2 := number_eq (p := p) (F := F + 5) (h := g') s.a
   cases hp : numT s.a with
   | some t =>
    simp only [hp,offT] at e2
    obtain ⟨v',h',a1,a2,a3,a4,a5,a6,a7,a8⟩ := put t
    rw [g40] at a8
    simp only [stC] at a8 g10
    simp (disch := first|omega|(simp only [zS];first|done|omega)) [r32_9,r32_10,arB,g10,stC,e2,srcOf,isText,a1,a8,List.getElem?_cons_zero,List.getElem?_cons_succ]
    exact fin t lo _ v' h' (by simp [argT,hp]) rfl hlo a3 a4 a5 a6 a7 a2
   | none =>
    simp only [hp,offT] at e2
    simp only [stC] at g10
    simp (disch := first|omega|(simp only [zS];first|done|omega)) [r32_9,r32_10,arB,g10,stC,e2]
    exact Ans.of ⟨k0,by rw [bad (by simp [argT,hp])];rfl⟩
  | b =>
   have e2 := number_eq (p := p) (F := F + 5) (h := g') s.b
   cases hp : numT s.b with
   | some t =>
    simp only [hp,offT] at e2
    obtain ⟨v',h',a1,a2,a3,a4,a5,a6,a7,a8⟩ := put t
    rw [g40] at a8
    simp only [stC] at a8 g10
    simp (disch := first|omega|(simp only [zS];first|done|omega)) [r32_9,r32_11,r32_12,arB,g10,stC,e2,srcOf,isText,a1,a8,List.getElem?_cons_zero,List.getElem?_cons_succ]
    exact fin t lo _ v' h' (by simp [argT,hp]) rfl hlo a3 a4 a5 a6 a7 a2
   | none =>
    simp only [hp,offT] at e2
    simp only [stC] at g10
    simp (disch := first|omega|(simp only [zS];first|done|omega)) [r32_9,r32_11,r32_12,arB,g10,stC,e2]
    exact Ans.of ⟨k0,by rw [bad (by simp [argT,hp])];rfl⟩
  | c =>
   have e2 := number_eq (p := p) (F := F + 5) (h := g') s.c
   cases hp : numT s.c with
   | some t =>
    simp only [hp,offT] at e2
    obtain ⟨v',h',a1,a2,a3,a4,a5,a6,a7,a8⟩ := put t
    rw [g40] at a8
    simp only [stC] at a8 g10
    simp (disch := first|omega|(simp only [zS];first|done|omega)) [r32_9,r32_11,r32_13,r32_14,arB,g10,stC,e2,srcOf,isText,a1,a8,List.getElem?_cons_zero,List.getElem?_cons_succ]
    exact fin t lo _ v' h' (by simp [argT,hp]) rfl hlo a3 a4 a5 a6 a7 a2
   | none =>
    simp only [hp,offT] at e2
    simp only [stC] at g10
    simp (disch := first|omega|(simp only [zS];first|done|omega)) [r32_9,r32_11,r32_13,r32_14,arB,g10,stC,e2]
    exact Ans.of ⟨k0,by rw [bad (by simp [argT,hp])];rfl⟩
  | p =>
   have e2 := held_eq (p := p) (F := F + 5) (h := g') s.place
   by_cases hp : s.place.length ≤ 256
   ·have e3 := placed_eq (p := p) (F := F + 3) (h := g') s.place (by omega) (by omega)
    simp only [heldT,if_pos hp,offT] at e2
    obtain ⟨v',h',a1,a2,a3,a4,a5,a6,a7,a8⟩ := put (placed s.place)
    rw [g40] at a8
    simp only [stC] at a8 g10
    simp (disch := first|omega|(simp only [zS];first|done|omega)) [r32_9,r32_11,r32_13,r32_15,r32_16,arB,g10,stC,e2,e3,srcOf,isText,a1,a8,List.getElem?_cons_zero,List.getElem?_cons_succ]
    exact fin (placed s.place) lo _ v' h' (by simp [argT,hp]) rfl hlo a3 a4 a5 a6 a7 a2
   ·simp only [heldT,if_neg hp,offT] at e2
    simp only [stC] at g10
    simp (disch := first|omega|(simp only [zS];first|done|omega)) [r32_9,r32_11,r32_13,r32_15,r32_16,arB,g10,stC,e2]
    exact Ans.of ⟨k0,by rw [bad (by simp [argT,hp])];rfl⟩
  | k =>
   obtain ⟨wr,we,wl,wa,gw⟩ := hG.kept k0
   have hw1 := lt_of_get gw
   by_cases hb1' : s.b < 1
   ·simp only [stC] at g10
    simp (disch := first|omega|(simp only [zS];first|done|omega)) [r32_9,r32_11,r32_13,r32_15,r32_17,r32_18,r32_19,arB,g10,stC,hb1',e1]
    exact Ans.of ⟨k0,by rw [bad (by simp only [argT,Go.Rn.kindT];rw [if_neg (by omega),if_neg (by omega),if_neg (by omega)])];rfl⟩
   ·by_cases hb2' : (3 : Int) < s.b
    ·simp only [stC] at g10
     simp (disch := first|omega|(simp only [zS];first|done|omega)) [r32_9,r32_11,r32_13,r32_15,r32_17,r32_18,r32_19,arB,g10,stC,hb1',hb2',e1]
     exact Ans.of ⟨k0,by rw [bad (by simp only [argT,Go.Rn.kindT];rw [if_neg (by omega),if_neg (by omega),if_neg (by omega)])];rfl⟩
    ·have h3 : s.b = 1 ∨ s.b = 2 ∨ s.b = 3 := by omega
     rcases h3 with hb | hb | hb
     ·obtain ⟨v',h',a1,a2,a3,a4,a5,a6,a7,a8⟩ := put w_node
      rw [g40] at a8
      simp only [stC] at a8
      simp only [stC,hb] at g10
      simp (disch := first|omega|(simp only [zS];first|done|omega)) [r32_9,r32_11,r32_13,r32_15,r32_17,r32_18,r32_20,arB,g10,stC,gw,gN,srcOf,isText,a1,a8,List.getElem?_cons_zero,List.getElem?_cons_succ]
      exact fin w_node lo _ v' h' (by simp [argT,Go.Rn.kindT,hb]) rfl hlo a3 a4 a5 a6 a7 a2
     ·obtain ⟨v',h',a1,a2,a3,a4,a5,a6,a7,a8⟩ := put w_kids
      rw [g40] at a8
      simp only [stC] at a8
      simp only [stC,hb] at g10
      simp (disch := first|omega|(simp only [zS];first|done|omega)) [r32_9,r32_11,r32_13,r32_15,r32_17,r32_18,r32_20,arB,g10,stC,gw,gN,srcOf,isText,a1,a8,List.getElem?_cons_zero,List.getElem?_cons_succ]
      exact fin w_kids lo _ v' h' (by simp [argT,Go.Rn.kindT,hb]) rfl hlo a3 a4 a5 a6 a7 a2
     ·obtain ⟨v',h',a1,a2,a3,a4,a5,a6,a7,a8⟩ := put w_subtree
      rw [g40] at a8
      simp only [stC] at a8
      simp only [stC,hb] at g10
      simp (disch := first|omega|(simp only [zS];first|done|omega)) [r32_9,r32_11,r32_13,r32_15,r32_17,r32_18,r32_20,arB,g10,stC,gw,gN,srcOf,isText,a1,a8,List.getElem?_cons_zero,List.getElem?_cons_succ]
      exact fin w_subtree lo _ v' h' (by simp [argT,Go.Rn.kindT,hb]) rfl hlo a3 a4 a5 a6 a7 a2
  | o =>
   have hov2 := hov.kept k0
   have e2 := opsT_spec' (p := p) (F := F) hov2 hF
   have g10' := g10
   simp only [stC] at g10
   simp (disch := first|omega|(simp only [zS];first|done|omega)) [r32_9,r32_11,r32_13,r32_15,r32_17,r32_21,r32_22,arB,g10,stC]
   refine Ans.nextC e2 ?_
   rintro w g3 ⟨k3,rfl⟩
   cases hp : Go.Rn.opsT s.ops with
   | none =>
    simp (disch := first|omega|(simp only [zS];first|done|omega)) [offT]
    exact Ans.of ⟨k0.trans k3,by rw [bad (by simp [argT,hp])]⟩
   | some t =>
    obtain ⟨v',h',a1,a2,a3,a4,a5,a6,a7,a8⟩ := put3 t g3 k3
    rw [g40] at a8
    simp only [stC] at a8
    simp (disch := first|omega|(simp only [zS];first|done|omega)) [offT,srcOf,isText,a1,a8]
    exact fin t (.slice none 0 0) _ v' h' (by simp [argT,hp]) rfl (.inr ⟨rfl,rfl⟩) a3 a4 a5 a6 a7 a2
set_option maxHeartbeats 1000000 in
theorem stT_spec (s : St) (ov : Value) (hov : OvR h ov s.ops) (hG : Wat h) (hF : 300 < F) : Ans (cf p (F + 8) 32 [.agg ⟨stC s ov⟩] h) fun v h' => Kept h h' [] ∧ v = offT (stT s) := by
 rw [cf_step (a := a32) rfl rfl (by simp [a32])]
 have k1 := rowKept h (stC s ov) 0 []
 have k2 := k1.trans (rowKept (Ev.newRow h (stC s ov) 0 []) [vi 0,vs [],vs []] 0 [])
 have b1 : hget (Ev.newRow (Ev.newRow h (stC s ov) 0 []) [vi 0,vs [],vs []] 0 []) h.size = some (.cells (stC s ov) 0 true []) := by simp
 have b3 : hget (Ev.newRow (Ev.newRow h (stC s ov) 0 []) [vi 0,vs [],vs []] 0 []) (h.size + 1) = some (.cells [vi 0,vs [],vs []] 0 true []) := by simp
 have z2 : (Ev.newRow (Ev.newRow h (stC s ov) 0 []) [vi 0,vs [],vs []] 0 []).size = h.size + 2 := by simp
 have eqz : Ev.newRow (Ev.newRow h [vi s.kind,vi s.a,vi s.b,vi s.c,vs s.place,ov] 0 []) [vi 0,vs [],vs []] 0 [] = Ev.newRow (Ev.newRow h (stC s ov) 0 []) [vi 0,vs [],vs []] 0 [] := rfl
 simp (disch := first|omega|(simp only [zS];first|done|omega)) [a32,r32_0,stC,lit_nil,d32_1]
 rw [eqz]
 generalize Ev.newRow (Ev.newRow h (stC s ov) 0 []) [vi 0,vs [],vs []] 0 [] = g2 at *
 refine Ans.nextCD (shapes_spec (p := p) (F := F + 6) (h := g2)) ?_
 rintro w1 g3 ⟨rfl,rfl⟩
 have k3 := rowKept g2 (stepSh.map shC).flatten 3 []
 have hS := shapes_row g2 stepSh 16 rfl
 have b13 := (k3.get (b := h.size) (by omega) (by simp)).trans b1
 have b33 := (k3.get (b := h.size + 1) (by omega) (by simp)).trans b3
 have k03 := k2.trans k3
 have z3 : (Ev.newRow g2 (stepSh.map shC).flatten 3 []).size = h.size + 3 := by simp [z2]
 generalize Ev.newRow g2 (stepSh.map shC).flatten 3 [] = g3 at *
 have e2 := shapeOf_spec (p := p) (F := F + 5) s.kind hS (by show (16 : Nat) < _;omega) (by show (16 : Nat) < _;omega)
 simp (disch := first|omega|(simp only [zS];first|done|omega)) [b13,stC]
 refine Ans.nextCD e2 ?_
 rintro w2 g4 ⟨k4,rfl⟩
 have b14 := (k4.get (b := h.size) (by omega) (by simp)).trans b13
 have b34 := (k4.get (b := h.size + 1) (by omega) (by simp)).trans b33
 have k04 := k03.trans k4
 have z4 := k4.1
 rw [show stepSh = shL arB 1 stepTab from rfl,kind_shL]
 rw [Rn.stT_eq]
 by_cases hk1 : 1 ≤ s.kind
 ·rw [if_pos hk1,if_pos (by omega)]
  have ek : (s.kind - ((1 : Nat) : Int)).toNat = (s.kind - 1).toNat := by omega
  rw [ek]
  cases hq : stepTab[(s.kind - 1).toNat]? with
  | none =>
   simp (disch := first|omega|(simp only [zS];first|done|omega)) [shV,stC,b1,b13,List.getElem?_cons_zero,List.getElem?_cons_succ,dk_go,dk_pan,blanks,chks_nil,chks_cons,chkA_cons,chkA_nil,chk1_yes,hAt_eq,hOf_some,hOf_none,chkV_some,sameV,sameCell]
   exact Ans.of ⟨k04,rfl⟩
  | some q =>
   obtain ⟨w,args⟩ := q
   simp (disch := first|omega|(simp only [zS];first|done|omega)) [shV,shC,b1,b13,b14,b34,stC,List.getElem?_cons_zero,List.getElem?_cons_succ,dk_go,dk_pan,blanks,chks_nil,chks_cons,chkA_cons,chkA_nil,chk1_yes,hAt_eq,hOf_some,hOf_none,chkV_some,sameV,sameCell]
   have z34 := lt_of_get b34
   have k5 : Kept h (g4.setIfInBounds (h.size + 1) (.cells [vi s.kind,vs w,vs (args.map arB)] 0 true [])) [] := kept_set k04 (by omega)
   have b15 : hget (g4.setIfInBounds (h.size + 1) (.cells [vi s.kind,vs w,vs (args.map arB)] 0 true [])) h.size = some (.cells (stC s ov) 0 true []) := by rw [set_other (by omega)];exact b14
   have b35 : hget (g4.setIfInBounds (h.size + 1) (.cells [vi s.kind,vs w,vs (args.map arB)] 0 true [])) (h.size + 1) = some (.cells [vi s.kind,vs w,vs (args.map arB)] 0 true []) := by simp (disch := first|omega|(simp only [zS];first|done|omega)) []
   have z5 : (g4.setIfInBounds (h.size + 1) (.cells [vi s.kind,vs w,vs (args.map arB)] 0 true [])).size = g4.size := by simp
   generalize g4.setIfInBounds (h.size + 1) (.cells [vi s.kind,vs w,vs (args.map arB)] 0 true []) = g5 at *
   have hm := stepTab_len' (List.mem_of_getElem? hq)
   have kA := rowKept g5 (stC { s with kind := 0 } ov) 0 []
   have kB := rowKept (Ev.newRow g5 (stC { s with kind := 0 } ov) 0 []) [vs w] 1 []
   have kC : Kept (Ev.newRow (Ev.newRow g5 (stC { s with kind := 0 } ov) 0 []) [vs w] 1 []) (Array.push (Ev.newRow (Ev.newRow g5 (stC { s with kind := 0 } ov) 0 []) [vs w] 1 []) (.iter (ofB (args.map arB)) 0)) [] := ⟨by simp,fun c hc _ => push_old hc⟩
   have kD := (kA.trans kB).trans kC
   have main := stT_loop (p := p) (F := F) s ov args hm.1 h.size g5.size (g5.size + 2) hF h (Nat.le_refl _) (by omega) (by omega) hG hov (args.map arB) rfl (Rn.stR s (some (w,args))) (args.length - 0) 0 { s with kind := 0 } ov [w]
    (.slice (some ⟨g5.size + 1,0,none⟩) 1 1) (Array.push (Ev.newRow (Ev.newRow g5 (stC { s with kind := 0 } ov) 0 []) [vs w] 1 []) (.iter (ofB (args.map arB)) 0)) rfl (by omega) (k5.trans kD) ((kD.get (by omega) (by simp)).trans b15) (by simp (disch := first|omega|(simp only [zS];first|done|omega)) []) rfl (.inl ⟨rfl,rfl⟩) (by simp (disch := first|omega|(simp only [zS];first|done|omega)) [])
    (.inr ⟨g5.size + 1,[vs w],[],rfl,⟨by omega,by simp⟩,by simp (disch := first|omega|(simp only [zS];first|done|omega)) [],rfl,fun i x hx => by
      cases i with
      | zero => simp at hx;subst hx;rfl
      | succ i => simp at hx⟩) (by simp) (by simp) (by have := hm.2;simp at this ⊢;omega) (by simp [Rn.stR]) (F + 7) (by have := hm.1;simp at this;omega)
   have h1w := hov.one
   unfold oneCell at h1w
   simp (disch := first|omega|(simp only [zS];first|done|omega)) [r32_2,r32_3,r32_4,r32_5,b15,b35,stC,h1w]
   exact main
 ·rw [if_neg hk1,if_neg (by omega)]
  simp (disch := first|omega|(simp only [zS];first|done|omega)) [shV,stC,b1,b13,List.getElem?_cons_zero,List.getElem?_cons_succ,dk_go,dk_pan,blanks,chks_nil,chks_cons,chkA_cons,chkA_nil,chk1_yes,hAt_eq,hOf_some,hOf_none,chkV_some,sameV,sameCell]
  exact Ans.of ⟨k04,rfl⟩
end Go.Proofs.YtnoghchcboiojaaGreatDoor
end
section
set_option maxRecDepth 100000
namespace Go.Proofs.YtnoghchcboiojaaGreatDoor
open Go.Ev
open Go.Rn (Bs)
variable {p : Bool} {F : Nat} {h : H}
theorem op_ne (x y : Rn.Op) : (!x.kind == y.kind || (!ofB x.place == ofB y.place || (!ofB x.data == ofB y.data || (!x.version == y.version || !x.flags == y.flags)))) = !decide (x = y) := by
 obtain ⟨k1,p1,d1,v1,f1⟩ := x
 obtain ⟨k2,p2,d2,v2,f2⟩ := y
 simp only [ofB_beq,Rn.Op.mk.injEq]
 by_cases h1 : k1 = k2
 ·by_cases h2 : p1 = p2
  ·by_cases h3 : d1 = d2
   ·by_cases h4 : v1 = v2
    ·by_cases h5 : f1 = f2 <;> simp [h1,h2,h3,h4,h5]
    ·simp [h1,h2,h3,h4]
   ·simp [h1,h2,h3]
  ·simp [h1,h2]
 ·simp [h1]
theorem ops_eq {ok ok' : Nat → Prop} {v w : Value} {xs ys : List Rn.Op} (hx : SlR ok 5 OpR h v xs) (hy : SlR ok' 5 OpR h w ys) (hF : xs.length < F) (hl : xs.length < 4398046511104) : cf p (F + 1) 27 [v,w] h = some (.bool (decide (xs = ys)),h) := by
 rw [cf_step (a := a27) rfl rfl (by simp [a27])]
 have lx := hx.len
 have ly := hy.len
 by_cases hlen : xs.length = ys.length
 ·have hne : ((xs.length : Int) != ys.length) = false := by simp [hlen]
  apply Ans.to_eq
  simp [a27,r27_0,r27_1,lx,ly,hne,r27_3]
  refine loop_rule (fun m s h' => ∃ i : Nat,i ≤ xs.length ∧ m = xs.length - i ∧ h' = h ∧ s = [(0,v),(1,w),(5,vi i)] ∧ (xs = ys ↔ xs.drop i = ys.drop i))
   ?_ F (xs.length - 0) _ h (by omega) ⟨0,by omega,rfl,rfl,rfl,by simp⟩
  rintro m s h' again ⟨i,hi,rfl,hh,rfl,hq⟩ hag
  subst hh
  by_cases hlt : i < xs.length
  ·obtain ⟨x,hxi⟩ : ∃ x,xs[i]? = some x := ⟨_,List.getElem?_eq_getElem hlt⟩
   obtain ⟨y,hyi⟩ : ∃ y,ys[i]? = some y := ⟨_,List.getElem?_eq_getElem (by omega)⟩
   obtain ⟨b,o,c,cs,es,lv,an,rfl,_,hg,hl1,hr⟩ := hx.at' hxi
   obtain ⟨b',o',c',cs',es',lv',an',rfl,_,hg',hl1',hr'⟩ := hy.at' hyi
   have hr : (cs.drop (o + i * 5)).take 5 = opC x := hr
   have hr' : (cs'.drop (o' + i * 5)).take 5 = opC y := hr'
   have hlt' : (i : Int) < xs.length := by omega
   have hlt2 : (i : Int) < ys.length := by omega
   have hb := op_ne x y
   have w0 : IntKind.i64.wrap ((i : Int) + 1) = (i : Int) + 1 := wrap_in (by omega) (by omega)
   have hd1 : xs.drop i = x :: xs.drop (i + 1) := drop_at hxi
   have hd2 : ys.drop i = y :: ys.drop (i + 1) := drop_at hyi
   rw [hd1,hd2] at hq
   by_cases hxy : x = y
   ·have hb1 : (!decide (x = y)) = false := by simp [hxy]
    rw [hb1] at hb
    simp (disch := first|omega|(simp only [zS];first|done|omega)) [l27_8,r27_4,hlt',d27_5,hlt2,hg,hl1,hr,hg',hl1',hr',opC,hb,r27_7,w0]
    exact hag (xs.length - (i + 1)) [(0,_),(1,_),(5,vi ((i : Int) + 1))] _ (by omega) ⟨i + 1,by omega,rfl,rfl,by simp,by rw [hq];simp [hxy]⟩
   ·have hb1 : (!decide (x = y)) = true := by simp [hxy]
    rw [hb1] at hb
    simp (disch := first|omega|(simp only [zS];first|done|omega)) [l27_8,r27_4,hlt',d27_5,hlt2,hg,hl1,hr,hg',hl1',hr',opC,hb,r27_6]
    refine Ans.of ⟨?_,rfl⟩
    have : ¬ xs = ys := fun e => by
     have := hq.1 e
     simp [hxy] at this
    simp [this]
  ·have : i = xs.length := by omega
   subst this
   have hxy : xs = ys := by
    rw [hq,List.drop_eq_nil_iff.2 (Nat.le_refl _),List.drop_eq_nil_iff.2 (by omega)]
   simp (disch := first|omega|(simp only [zS];first|done|omega)) [l27_8,r27_4,lx,r27_9]
   exact Ans.of ⟨by simp [hxy],rfl⟩
 ·have hne : ((xs.length : Int) != ys.length) = true := by simp;omega
  have : ¬ xs = ys := fun e => hlen (by rw [e])
  simp [a27,r27_0,r27_1,lx,ly,hne,r27_2,this]
end Go.Proofs.YtnoghchcboiojaaGreatDoor
end
section
set_option maxRecDepth 100000
namespace Go.Proofs.YtnoghchcboiojaaGreatDoor
open Go.Ev
open Go.Rn (Bs St)
variable {p : Bool} {F : Nat} {h : H}
def StE (h : H) (cs : List Value) (s : St) : Prop := ∃ (ov : Value) (ok : Nat → Prop),cs = stC s ov ∧ SlR ok 5 OpR h ov s.ops
set_option maxHeartbeats 1000000 in
theorem steps_eq {ok ok' : Nat → Prop} {v w : Value} {xs ys : List St} (hx : SlR ok 6 StE h v xs) (hy : SlR ok' 6 StE h w ys) (hF : xs.length < F) (hl : xs.length < 4398046511104) (hops : ∀ s ∈ xs,s.ops.length < F ∧ s.ops.length < 4398046511104) :
  cf p (F + 2) 12 [v,w] h = some (.bool (decide (xs = ys)),h) := by
 rw [cf_step (a := a12) rfl rfl (by simp [a12])]
 have lx := hx.len
 have ly := hy.len
 by_cases hlen : xs.length = ys.length
 ·have hne : ((xs.length : Int) != ys.length) = false := by simp [hlen]
  apply Ans.to_eq
  simp [a12,r12_0,r12_1,lx,ly,hne,r12_3]
  refine loop_rule (fun m s h' => ∃ i : Nat,i ≤ xs.length ∧ m = xs.length - i ∧ h' = h ∧ s = [(0,v),(1,w),(5,vi i)] ∧ (xs = ys ↔ xs.drop i = ys.drop i))
   ?_ (F + 1) (xs.length - 0) _ h (by omega) ⟨0,by omega,rfl,rfl,rfl,by simp⟩
  rintro m s h' again ⟨i,hi,rfl,hh,rfl,hq⟩ hag
  subst hh
  by_cases hlt : i < xs.length
  ·obtain ⟨x,hxi⟩ : ∃ x,xs[i]? = some x := ⟨_,List.getElem?_eq_getElem hlt⟩
   obtain ⟨y,hyi⟩ : ∃ y,ys[i]? = some y := ⟨_,List.getElem?_eq_getElem (by omega)⟩
   obtain ⟨b,o,c,cs,es,lv,an,rfl,_,hg,hl1,ov,okx,hr,hox⟩ := hx.at' hxi
   obtain ⟨b',o',c',cs',es',lv',an',rfl,_,hg',hl1',ov',oky,hr',hoy⟩ := hy.at' hyi
   have hlt' : (i : Int) < xs.length := by omega
   have hlt2 : (i : Int) < ys.length := by omega
   have w0 : IntKind.i64.wrap ((i : Int) + 1) = (i : Int) + 1 := wrap_in (by omega) (by omega)
   have hd1 : xs.drop i = x :: xs.drop (i + 1) := drop_at hxi
   have hd2 : ys.drop i = y :: ys.drop (i + 1) := drop_at hyi
   have hob := hops x (List.mem_of_getElem? hxi)
   have e1 := ops_eq (p := p) hox hoy hob.1 hob.2
   rw [hd1,hd2] at hq
   have fld : ∀ {cs : List Value} {q k : Nat} {s : St} {u : Value} {z : Value},(cs.drop q).take 6 = stC s u → (stC s u)[k]? = some z → (cs.drop (q + k)).take 1 = [z] := by
    intro cs q k s u z e hz
    rw [← e,List.getElem?_take,List.getElem?_drop] at hz
    split at hz
    ·have hlt := (List.getElem?_eq_some_iff.1 hz).1
     have e2 := (List.getElem?_eq_some_iff.1 hz).2
     rw [List.drop_eq_getElem_cons hlt,e2];rfl
    ·cases hz
   have a0 := fld (k := 0) hr rfl
   have a1 := fld (k := 1) hr rfl
   have a2 := fld (k := 2) hr rfl
   have a3 := fld (k := 3) hr rfl
   have a4 := fld (k := 4) hr rfl
   have a5 := fld (k := 5) hr rfl
   have b0 := fld (k := 0) hr' rfl
   have b1 := fld (k := 1) hr' rfl
   have b2 := fld (k := 2) hr' rfl
   have b3 := fld (k := 3) hr' rfl
   have b4 := fld (k := 4) hr' rfl
   have b5 := fld (k := 5) hr' rfl
   rw [Nat.add_zero] at a0 b0
   have hz0 : o + i * 6 + 1 ≤ cs.length := by omega
   have hz1 : o + i * 6 + 1 + 1 ≤ cs.length := by omega
   have hz2 : o + i * 6 + 2 + 1 ≤ cs.length := by omega
   have hz3 : o + i * 6 + 3 + 1 ≤ cs.length := by omega
   have hz4 : o + i * 6 + 4 + 1 ≤ cs.length := by omega
   have hz5 : o + i * 6 + 5 + 1 ≤ cs.length := by omega
   have hw0 : o' + i * 6 + 1 ≤ cs'.length := by omega
   have hw1 : o' + i * 6 + 1 + 1 ≤ cs'.length := by omega
   have hw2 : o' + i * 6 + 2 + 1 ≤ cs'.length := by omega
   have hw3 : o' + i * 6 + 3 + 1 ≤ cs'.length := by omega
   have hw4 : o' + i * 6 + 4 + 1 ≤ cs'.length := by omega
   have hw5 : o' + i * 6 + 5 + 1 ≤ cs'.length := by omega
   have no : ¬ x = y → (decide (xs = ys)) = false := fun hxy => by
    have : ¬ xs = ys := fun e => by
     have := hq.1 e
     simp [hxy] at this
    simp [this]
   by_cases c0 : x.kind = y.kind
   ·have d0 : (x.kind != y.kind) = false := by simp [c0]
    by_cases c1 : x.a = y.a
    ·have d1 : (x.a != y.a) = false := by simp [c1]
     by_cases c2 : x.b = y.b
     ·have d2 : (x.b != y.b) = false := by simp [c2]
      by_cases c3 : x.c = y.c
      ·have d3 : (x.c != y.c) = false := by simp [c3]
       by_cases c4 : x.place = y.place
       ·by_cases c5 : x.ops = y.ops
        ·have hxy : x = y := by
          cases x;cases y
          simp only at c0 c1 c2 c3 c4 c5
          simp [c0,c1,c2,c3,c4,c5]
         have e5 : decide (x.ops = y.ops) = true := by simp [c5]
         rw [e5] at e1
         simp (disch := first|omega|(simp only [zS];first|done|omega)) [l12_8,r12_4,hlt',d12_5,hlt2,hg,hg',hz0,hz1,hz2,hz3,hz4,hz5,hw0,hw1,hw2,hw3,hw4,hw5,a0,a1,a2,a3,a4,a5,b0,b1,b2,b3,b4,b5,ofB_bne,d0,d1,d2,d3,c4,e1,r12_7,w0]
         exact hag (xs.length - (i + 1)) [(0,_),(1,_),(5,vi ((i : Int) + 1))] _ (by omega) ⟨i + 1,by omega,rfl,rfl,by simp,by rw [hq];simp [hxy]⟩
        ·have e5 : decide (x.ops = y.ops) = false := by simp [c5]
         rw [e5] at e1
         simp (disch := first|omega|(simp only [zS];first|done|omega)) [l12_8,r12_4,hlt',d12_5,hlt2,hg,hg',hz0,hz1,hz2,hz3,hz4,hz5,hw0,hw1,hw2,hw3,hw4,hw5,a0,a1,a2,a3,a4,a5,b0,b1,b2,b3,b4,b5,ofB_bne,d0,d1,d2,d3,c4,e1,r12_6]
         exact Ans.of ⟨by rw [no (fun e => c5 (by rw [e]))],rfl⟩
       ·simp (disch := first|omega|(simp only [zS];first|done|omega)) [l12_8,r12_4,hlt',d12_5,hlt2,hg,hg',hz0,hz1,hz2,hz3,hz4,hz5,hw0,hw1,hw2,hw3,hw4,hw5,a0,a1,a2,a3,a4,a5,b0,b1,b2,b3,b4,b5,ofB_bne,d0,d1,d2,d3,c4,r12_6]
        exact Ans.of ⟨by rw [no (fun e => c4 (by rw [e]))],rfl⟩
      ·have d3 : (x.c != y.c) = true := by simpa using c3
       simp (disch := first|omega|(simp only [zS];first|done|omega)) [l12_8,r12_4,hlt',d12_5,hlt2,hg,hg',hz0,hz1,hz2,hz3,hz4,hz5,hw0,hw1,hw2,hw3,hw4,hw5,a0,a1,a2,a3,a4,a5,b0,b1,b2,b3,b4,b5,ofB_bne,d0,d1,d2,d3,r12_6]
       exact Ans.of ⟨by rw [no (fun e => c3 (by rw [e]))],rfl⟩
     ·have d2 : (x.b != y.b) = true := by simpa using c2
      simp (disch := first|omega|(simp only [zS];first|done|omega)) [l12_8,r12_4,hlt',d12_5,hlt2,hg,hg',hz0,hz1,hz2,hz3,hz4,hz5,hw0,hw1,hw2,hw3,hw4,hw5,a0,a1,a2,a3,a4,a5,b0,b1,b2,b3,b4,b5,ofB_bne,d0,d1,d2,r12_6]
      exact Ans.of ⟨by rw [no (fun e => c2 (by rw [e]))],rfl⟩
    ·have d1 : (x.a != y.a) = true := by simpa using c1
     simp (disch := first|omega|(simp only [zS];first|done|omega)) [l12_8,r12_4,hlt',d12_5,hlt2,hg,hg',hz0,hz1,hz2,hz3,hz4,hz5,hw0,hw1,hw2,hw3,hw4,hw5,a0,a1,a2,a3,a4,a5,b0,b1,b2,b3,b4,b5,ofB_bne,d0,d1,r12_6]
     exact Ans.of ⟨by rw [no (fun e => c1 (by rw [e]))],rfl⟩
   ·have d0 : (x.kind != y.kind) = true := by simpa using c0
    simp (disch := first|omega|(simp only [zS];first|done|omega)) [l12_8,r12_4,hlt',d12_5,hlt2,hg,hg',hz0,hz1,hz2,hz3,hz4,hz5,hw0,hw1,hw2,hw3,hw4,hw5,a0,a1,a2,a3,a4,a5,b0,b1,b2,b3,b4,b5,ofB_bne,d0,r12_6]
    exact Ans.of ⟨by rw [no (fun e => c0 (by rw [e]))],rfl⟩
  ·have : i = xs.length := by omega
   subst this
   have hxy : xs = ys := by
    rw [hq,List.drop_eq_nil_iff.2 (Nat.le_refl _),List.drop_eq_nil_iff.2 (by omega)]
   simp (disch := first|omega|(simp only [zS];first|done|omega)) [l12_8,r12_4,lx,r12_9]
   exact Ans.of ⟨by simp [hxy],rfl⟩
 ·have hne : ((xs.length : Int) != ys.length) = true := by simp;omega
  have : ¬ xs = ys := fun e => hlen (by rw [e])
  simp [a12,r12_0,r12_1,lx,ly,hne,r12_2,this]
end Go.Proofs.YtnoghchcboiojaaGreatDoor
end
section
set_option maxRecDepth 100000
namespace Go.Proofs.YtnoghchcboiojaaGreatDoor
open Go.Ev
open Go.Rn (Bs St)
variable {p : Bool} {F : Nat} {h : H}
theorem SlR.map {α β : Type} {ok : Nat → Prop} {w : Nat} {R : H → List Value → α → Prop} {R' : H → List Value → β → Prop} {v : Value} {xs : List α} (f : α → β) (s : SlR ok w R h v xs) (hR : ∀ cs,∀ x ∈ xs,R h cs x → R' h cs (f x)) : SlR ok w R' h v (xs.map f) := by
 rcases s with ⟨e,rfl⟩ | ⟨b,o,c,cs,e,hc,hk,hb,hi⟩
 ·exact .inl ⟨e,rfl⟩
 ·refine .inr ⟨b,o,c,cs,by rw [e,List.length_map],by rw [List.length_map];exact hc,hk,hb,fun i y hy => ?_⟩
  rw [List.getElem?_map] at hy
  obtain ⟨x,hx,rfl⟩ := Option.map_eq_some_iff.1 hy
  exact ⟨(hi i x hx).1,hR _ _ (List.mem_of_getElem? hx) (hi i x hx).2⟩
theorem StepsAt.steps {lo : Nat} {sv : Value} {xs : List Stp} (s : StepsAt lo h sv xs) : SlR (okS lo xs) 6 StE h sv (xs.map fun x => x.1) :=
 SlR.map _ s.1.sl fun cs x _ q => by
  obtain ⟨ov,e,b⟩ := q
  exact ⟨ov,_,e,b.sl⟩
end Go.Proofs.YtnoghchcboiojaaGreatDoor
end
section
set_option maxRecDepth 100000
namespace Go.Proofs.YtnoghchcboiojaaGreatDoor
open Go.Ev
open Go.Rn (Bs Tok Ru St PRes)
variable {p : Bool} {F : Nat} {h : H}
theorem decSt_e {h : H} {cs : List Value} {s : St} (e : StE h cs s) : decSt h cs = some s := by
 obtain ⟨ov,ok,rfl,hs⟩ := e
 exact decSt_of (ok := ok) ⟨ov,rfl,hs⟩
theorem Glo.watB (g : Glo h) : watB h = true := by
 unfold Go.Proofs.YtnoghchcboiojaaGreatDoor.watB
 rw [g.watches]
 simp
theorem print_call {ok : Nat → Prop} {v : Value} {l : List St} {r : Ru} (hG : Glo h) (s : SlR ok 6 StE h v l) : cf true (F + 1) 14 [.agg ⟨ruC r⟩,v] h = some (printV (Go.Rn.print r l),h) := by
 rw [cf_X rfl]
 unfold xPrint
 simp only [hG.watB,if_true,decRu_of,decS_of s fun cs x _ e => decSt_e e]
theorem lit_run : strLc90d63ea = ofB [115,99,114,105,112,116,32,101,114,114,111,114,32] ∧ str32_97_116_32 = ofB [32,97,116,32] ∧ str120 = ofB [120] ∧ strL14e8ae08 = ofB [115,99,114,105,112,116,32,101,114,114,111,114,32,49,56,48,32,97,116,32,49,10] ∧ strL1445127d = ofB Rn.fixT ∧ strL61755ec5 = ofB (Rn.fixT ++ [10]) := ⟨rfl,rfl,rfl,rfl,rfl,rfl⟩
theorem itoa_180 : Lib.itoa 180 = [49,56,48] := by decide +kernel
theorem itoa_1 : Lib.itoa 1 = [49] := by decide +kernel
theorem run_bad (hG : Glo h) (h14 : 14 ≤ h.size) (hF : 4398046511200 < F) : Ans (cf p (F + 10) 26 [vs [120]] h) fun v h' => Kept h h' [] ∧ v = vs [115,99,114,105,112,116,32,101,114,114,111,114,32,49,56,48,32,97,116,32,49,10] := by
 rw [cf_step (a := a26) rfl rfl (by simp [a26])]
 have e1 := parse_spec (p := p) (F := F) [120] hG h14 hF
 rw [Rn.x_parse] at e1
 have e2 : ∀ h : H,∀ n : Int,-9223372036854775808 ≤ n → n ≤ 9223372036854775807 → cf p (F + 9) 55 [vi n] h = some (vs (Lib.itoa n),h) := fun h n h1 h2 => itoa_call (p := p) (F := F + 8) (h := h) n h1 h2
 generalize cf p (F + 9) = c at *
 simp [a26,r26_0,r26_1]
 refine Ans.next e1 ?_
 rintro w h1 ⟨k1,rfl⟩
 have k2 := k1.trans (rowKept h1 zer 0 [])
 simp (disch := first|omega|(simp only [zS];first|done|omega)) [bB,errV,r26_2,r26_3,lit_run,lit_ten,e2,itoa_180,itoa_1,ofB_app,zer]
 exact Ans.of ⟨k2,rfl⟩
end Go.Proofs.YtnoghchcboiojaaGreatDoor
end
section
set_option maxRecDepth 100000
namespace Go.Proofs.YtnoghchcboiojaaGreatDoor
open Go.Ev
open Go.Rn (Bs Tok Ru St PRes)
variable {p : Bool} {F : Nat} {h : H}
theorem fix_ru : ruC Rn.fixR = [vi 2,vi 1,vi 4,vi 16,vi 2,vi 0] := rfl
theorem fld_of {cs : List Value} {q k : Nat} {s : St} {u z : Value} (e : (cs.drop q).take 6 = stC s u) (hz : (stC s u)[k]? = some z) : (cs.drop (q + k)).take 1 = [z] := by
 rw [← e,List.getElem?_take,List.getElem?_drop] at hz
 split at hz
 ·have hlt := (List.getElem?_eq_some_iff.1 hz).1
  have e2 := (List.getElem?_eq_some_iff.1 hz).2
  rw [List.drop_eq_getElem_cons hlt,e2];rfl
 ·cases hz
theorem fixed_spec (hG : Glo h) (h14 : 14 ≤ h.size) (hF : 4398046511200 < F) : Ans (cf true (F + 11) 11 [] h) fun v h' => Kept h h' [] ∧ v = .bool true := by
 rw [cf_step (a := a11) rfl rfl (by simp [a11])]
 have q1 : F + 1 + 9 = F + 10 := by omega
 have q2 : F + 9 + 1 = F + 10 := by omega
 have e1 := parse_spec (p := true) (F := F + 1) Rn.fixT hG h14 (by omega)
 rw [Rn.fix_parse,q1] at e1
 have e2 := fun (h1 : H) (k : Kept h h1 []) => run_bad (p := true) (h := h1) (F := F) (hG.kept0 k) (Nat.le_trans h14 k.1) hF
 have e3 := fun (h1 : H) (k : Kept h h1 []) (ok : Nat → Prop) (v : Value) (l : List St) (r : Ru) => print_call (F := F + 9) (ok := ok) (v := v) (l := l) (r := r) (hG.kept0 k)
 rw [q2] at e3
 generalize cf true (F + 10) = c at *
 simp [a11,r11_0,r11_1,lit_run]
 refine Ans.next e1 ?_
 rintro w h1 ⟨k1,sv,xs,hxs,hxl,rfl,hS⟩
 have k2 := k1.trans (rowKept h1 (ruC Rn.fixR) 0 [])
 have hS2 := hS.kept (rowKept h1 (ruC Rn.fixR) 0 []) (by simp)
 have hs := hS2.steps
 rw [← hxs] at hs
 obtain ⟨b,o,n,cs,es,lv,an,hv,_,hg,hl1,ov,okx,hr,hox⟩ := hs.at' (i := 0) (x := Rn.fixS) rfl
 have e4 := e3 _ k2 _ _ _ Rn.fixR hs
 rw [Rn.fix_print] at e4
 have z0 := fld_of (k := 0) hr rfl
 have z1 := fld_of (k := 1) hr rfl
 simp only [List.length_cons,List.length_nil,Nat.zero_add] at hv
 have hA : hget (Ev.newRow h1 (ruC Rn.fixR) 0 []) h1.size = some (.cells (ruC Rn.fixR) 0 true []) := by simp
 have ho0 : o + 0 * 6 + 0 = o := by omega
 have ho1 : o + 0 * 6 + 1 = o + 1 := by omega
 rw [ho0] at z0
 rw [ho1] at z1
 have hc0 : o + 1 ≤ cs.length := by omega
 have hc1 : o + 1 + 1 ≤ cs.length := by omega
 have e5 := e2 _ k2
 subst hv
 rw [fix_ru] at *
 simp only [printV] at e4
 simp (disch := first|omega|(simp only [zS];first|done|omega)) [bB,r11_2]
 generalize Ev.newRow h1 [vi 2,vi 1,vi 4,vi 16,vi 2,vi 0] 0 [] = h2 at *
 have z0 : (cs.drop o).take 1 = [vi 5] := z0
 have z1 : (cs.drop (o + 1)).take 1 = [vi 1] := z1
 simp (disch := first|omega|(simp only [zS];first|done|omega)) [bB,hg,hc0,hc1,z0,z1,r11_4,hA,e4,r11_5,lit_run]
 refine Ans.next e5 ?_
 rintro w h3 ⟨k3,rfl⟩
 simp (disch := first|omega|(simp only [zS];first|done|omega)) [bB,ofB_beq]
 exact Ans.of ⟨k2.trans k3,rfl⟩
theorem ru_eq (r : Ru) : cellsEq [.int,.int,.int,.int,.int,.int] (ruC r) (ruC r) = some true := by
 simp [ruC,cellsEq,cellEq]
end Go.Proofs.YtnoghchcboiojaaGreatDoor
end
section
set_option maxRecDepth 100000
namespace Go.Proofs
open Go.Ev Go.RowKit
namespace YtnoghchcboiojaaGreatDoor
open Go.Rn (Bs Ru St numT stT)
theorem abs_calls {f : FuncId} {F : Nat} {w : World} {args : List Value} {r : Option Bs} {Q : Value → H → Prop} (hg : Vars w) (e : Ans (cf false F f (args.map (absA w.heap.size)) (absH w)) Q) (hQ : ∀ v h',Q v h' → v = offT r) :
  Calls Tryz.prog f ⟨args⟩ w fun e w' => e = endT r ∧ Old w.heap.size w w' := by
 obtain ⟨v,h',e,q⟩ := e
 have hv0 := hQ v h' q
 subst hv0
 obtain ⟨_,h2⟩ := cf_ok0 F _ _ _ _ _ e
 refine (h2 (ren0 w.heap.size) w args (absH_rel w hg) (absA_rels _ _)).mono ?_
 have old : ∀ {ρ' : Ev.Ren} {w' : World},Ext (ren0 w.heap.size) (absH w) w ρ' h' w' → Old w.heap.size w w' := fun hx => ⟨hx.io.1,hx.io.2,hx.wsz,fun k hk => old_kept hx hk⟩
 rintro e w' (⟨hp,v',ρ',rfl,hv,hr,hx⟩ | ⟨x,x',ρ',hp,rfl,hv,hr,hx⟩)
 ·refine ⟨?_,old hx⟩
  cases r with
  | none => simp [offT] at hp
  | some t =>
   cases hv
   rfl
 ·refine ⟨?_,old hx⟩
  cases r with
  | none =>
   simp only [offT,off,pv] at hp
   cases hp
   cases hv with
   | iface _ h1 =>
    cases h1 with
    | agg hc => cases hc;rfl
  | some t => simp [offT,pv] at hp
theorem num_k (n : Int) (w : World) (hg : Vars w) : Calls Tryz.prog 31 #[.int .i64 n] w fun e w' => e = endT (numT n) ∧ Old w.heap.size w w' :=
 abs_calls (F := 2) (args := [.int .i64 n]) (Q := fun v h' => v = offT (numT n)) hg ⟨_,_,number_eq (p := false) (F := 0) n,rfl⟩ fun _ _ q => q
theorem watW_abs {w : World} (h : WatW w) : Wat (absH w) := by
 obtain ⟨arr,t,fr,rest,h1,h2⟩ := h
 refine ⟨rest.map (absV w.heap.size),0,false,[],?_⟩
 show (w.heap.map (absB w.heap.size))[1]? = _
 rw [Array.getElem?_map,h1]
 simp [absB,h2,absV]
theorem opC_abs (N : Nat) (o : Rn.Op) : (opC o).map (absV N) = opC o := rfl
theorem absV_slice {N b o n c : Nat} (hb : b < N) (hn : n ≤ c) (hc : c ≠ 0) : absV N (.slice (some ⟨b,o,none⟩) n c) = .slice (some ⟨b,o,none⟩) n c := by
 cases n with
 | zero =>
  cases c with
  | zero => exact absurd rfl hc
  | succ c => simp [absV,hb]
 | succ n => simp [absV,hb,hn]
theorem cel_abs {w : World} {b : Nat} {arr : Array Value} {t : TypeId} {fr : Nat × Nat} (h : w.heap[b]? = some (.cells arr t fr)) : cel (absH w) b = some (arr.toList.map (absV w.heap.size)) := by
 refine cel_of (es := 0) (lv := false) (an := []) ?_
 show (w.heap.map (absB w.heap.size))[b]? = _
 rw [Array.getElem?_map,h];rfl
theorem row_abs {w : World} {b f k : Nat} {cs : List Value} (hk : 0 < k) (hl : cs.length = k) (h : ∀ j x,cs[j]? = some x → w.cell? ⟨b,f + j,none⟩ = some x) : ∃ bs,cel (absH w) b = some bs ∧ f + k ≤ bs.length ∧ (bs.drop f).take k = cs.map (absV w.heap.size) := by
 obtain ⟨x0,hx0⟩ : ∃ x,cs[0]? = some x := ⟨_,List.getElem?_eq_getElem (by omega)⟩
 have h0 := h 0 x0 hx0
 have hblk : ∃ arr t fr,w.heap[b]? = some (.cells arr t fr) := by
  unfold World.cell? at h0
  split at h0
  ·rename_i c T fr hc;exact ⟨c,T,fr,hc⟩
  ·cases h0
 obtain ⟨arr,t,fr,hb⟩ := hblk
 have hcell : ∀ j x,cs[j]? = some x → arr.toList[f + j]? = some x := by
  intro j x hx
  have := h j x hx
  simp only [World.cell?,hb] at this
  simpa using this
 have hlen : f + k ≤ arr.toList.length := by
  obtain ⟨x1,hx1⟩ : ∃ x,cs[k - 1]? = some x := ⟨_,List.getElem?_eq_getElem (by omega)⟩
  have := (List.getElem?_eq_some_iff.1 (hcell _ x1 hx1)).1
  omega
 refine ⟨_,cel_abs hb,by simpa using hlen,?_⟩
 apply List.ext_getElem?
 intro j
 by_cases hj : j < k
 ·obtain ⟨x,hx⟩ : ∃ x,cs[j]? = some x := ⟨_,List.getElem?_eq_getElem (by omega)⟩
  rw [List.getElem?_take,if_pos hj,List.getElem?_drop,List.getElem?_map,List.getElem?_map,hx,hcell j x hx]
 ·rw [List.getElem?_take,if_neg hj,List.getElem?_map,List.getElem?_eq_none (by omega)];rfl
theorem opsW_abs {w : World} {v : Value} {l : List Rn.Op} (h : OpsW w v l) : OvR (absH w) (absV w.heap.size v) l := by
 obtain ⟨a,c,rfl,hlc,hn,hel⟩ := h
 by_cases hc : c = 0
 ·subst hc
  have : l = [] := List.length_eq_zero_iff.1 (by omega)
  subst this
  refine .inl ⟨fun _ => True,.inl ⟨?_,rfl⟩⟩
  cases a with
  | none => exact .inl rfl
  | some a => exact .inr rfl
 ·obtain ⟨b,o,rfl,hb⟩ := hn hc
  rw [absV_slice hb hlc hc]
  cases l with
  | nil => exact .inr ⟨rfl,b,o,c,rfl⟩
  | cons x l =>
   have row : ∀ i y,(x :: l)[i]? = some y → ∃ bs,cel (absH w) b = some bs ∧ (o + i * 5) + 5 ≤ bs.length ∧ (bs.drop (o + i * 5)).take 5 = opC y := by
    intro i y hy
    obtain ⟨b',f',e,_,h3⟩ := hel i y hy
    cases e
    obtain ⟨bs,e1,e2,e3⟩ := row_abs (k := 5) (cs := opC y) (by decide) rfl h3
    exact ⟨bs,e1,e2,e3⟩
   obtain ⟨bs,hbs,_,_⟩ := row 0 x rfl
   refine .inl ⟨fun _ => True,.inr ⟨b,o,c,bs,rfl,hlc,trivial,hbs,fun i y hy => ?_⟩⟩
   obtain ⟨bs',e1,e2,e3⟩ := row i y hy
   rw [hbs] at e1
   cases e1
   exact ⟨e2,e3⟩
theorem step_k (s : St) (ov : Value) (w : World) (hg : Vars w) (hgw : WatW w) (ho : OpsW w ov s.ops) :
  Calls Tryz.prog 32 #[.agg #[.int .i64 s.kind,.int .i64 s.a,.int .i64 s.b,.int .i64 s.c,.string (ofB s.place),ov]] w fun e w' => e = endT (stT s) ∧ Old w.heap.size w w' := by
 have e := stT_spec (p := false) (F := 301) (h := absH w) s (absV w.heap.size ov) (opsW_abs ho) (watW_abs hgw) (by omega)
 exact abs_calls (F := 309) (args := [.agg #[.int .i64 s.kind,.int .i64 s.a,.int .i64 s.b,.int .i64 s.c,.string (ofB s.place),ov]]) hg e fun v h' q => q.2
theorem decL_inv {α : Type} {w : Nat} {dec : List Value → Option α} {cs : List Value} {o : Nat} : ∀ {n i : Nat} {xs : List α},decL w dec cs o i n = some xs → xs.length = n ∧
  ∀ (j : Nat) (x : α),xs[j]? = some x → o + (i + j) * w + w ≤ cs.length ∧ dec ((cs.drop (o + (i + j) * w)).take w) = some x
 | 0,i,xs,h => by simp [decL] at h;subst h;simp
 | n + 1,i,xs,h => by
  unfold decL at h
  split at h
  ·rename_i hb
   split at h
   ·rename_i x l h1 h2
    cases h
    obtain ⟨g1,g2⟩ := decL_inv h2
    refine ⟨by simp [g1],fun j y hy => ?_⟩
    cases j with
    | zero => simp at hy;subst hy;exact ⟨hb,h1⟩
    | succ j =>
     have := g2 j y (by simpa using hy)
     rw [show i + 1 + j = i + (j + 1) by omega] at this
     exact this
   ·cases h
  ·cases h
theorem decS_real {ρ : Ev.Ren} {h : H} {w : World} (r : Rel ρ h w) {α : Type} {k : Nat} {dec : List Value → Option α} {v v' : Value} (hv : VR ρ v v') {xs : List α} (e : decS k dec h v = some xs) :
  ∃ a c,v' = .slice a xs.length c ∧ xs.length ≤ c ∧ (c ≠ 0 → ∃ b o,a = some ⟨b,o,none⟩ ∧ b < w.heap.size) ∧ ∀ i x,xs[i]? = some x → ∃ b f cs cs',a = some ⟨b,f,none⟩ ∧ b < w.heap.size ∧ dec cs = some x ∧ VRs ρ cs cs' ∧
   ∀ j y,cs'[j]? = some y → w.cell? ⟨b,f + i * k + j,none⟩ = some y := by
 unfold decS at e
 split at e
 ·cases e
  cases hv
  exact ⟨none,0,rfl,Nat.le_refl _,fun h => absurd rfl h,fun i x hx => by simp at hx⟩
 ·cases e
  cases hv
  exact ⟨_,0,rfl,Nat.le_refl _,fun h => absurd rfl h,fun i x hx => by simp at hx⟩
 ·rename_i b o n c
  split at e
  ·rename_i hn
   split at e
   ·rename_i cs hc
    obtain ⟨hl,hi⟩ := decL_inv e
    cases hv with
    | slice hb hnc hcc hroom ho =>
     rename_i o' c' i
     have hbb := r.bnd _ _ hb
     subst hl
     refine ⟨_,c',rfl,by omega,fun _ => ⟨_,_,rfl,hbb⟩,fun j x hx => ?_⟩
     obtain ⟨e1,e2⟩ := hi j x hx
     rw [Nat.zero_add] at e1 e2
     have hpos : 0 < xs.length := by have := (List.getElem?_eq_some_iff.1 hx).1;omega
     have ho' : o' = o + i.sh := by
      rcases ho with ho | ho
      ·exact ho
      ·omega
     subst ho'
     have hrd : rd h b (o + j * k) k = some ((cs.drop (o + j * k)).take k) := by
      obtain ⟨es,lv,an,hg⟩ := cel_inv hc
      have hg' : h[b]? = some (.cells cs es lv an) := hg
      unfold rd
      rw [hg']
      simp only [if_pos e1]
     obtain ⟨_,l',g2,g3⟩ := rd_rel r hb hrd
     refine ⟨_,_,_,l',rfl,hbb,e2,g2,fun q y hy => ?_⟩
     have := g3 q y hy
     rw [show o + i.sh + j * k + q = o + j * k + i.sh + q by omega]
     exact this
   ·cases e
  ·cases e
 ·cases e
theorem decOp_inv {cs : List Value} {o : Rn.Op} (e : decOp cs = some o) : cs = opC o := by
 unfold decOp at e
 split at e
 ·cases e;rfl
 ·cases e
theorem vrs_plain {ρ : Ev.Ren} : ∀ {l l' : List Value},VRs ρ l l' → (∀ x ∈ l,(∃ k n,x = .int k n) ∨ ∃ s,x = .string s) → l' = l
 | [],_,h,_ => by cases h;rfl
 | x :: l,_,h,hx => by
  cases h with
  | cons h1 h2 =>
   rw [vrs_plain h2 fun y hy => hx y (by simp [hy])]
   rcases hx x (by simp) with ⟨k,n,rfl⟩ | ⟨s,rfl⟩
   ·cases h1;rfl
   ·cases h1;rfl
theorem ops_real {ρ : Ev.Ren} {h : H} {w : World} (r : Rel ρ h w) {v v' : Value} (hv : VR ρ v v') {l : List Rn.Op} (e : decS 5 decOp h v = some l) : OpsW w v' l := by
 obtain ⟨a,c,h1,h2,h3,h4⟩ := decS_real r hv e
 refine ⟨a,c,h1,h2,h3,fun i o ho => ?_⟩
 obtain ⟨b,f,cs,cs',e1,e2,e3,e4,e5⟩ := h4 i o ho
 have := decOp_inv e3
 subst this
 have := vrs_plain e4 (by simp [opC])
 subst this
 exact ⟨b,f,e1,e2,e5⟩
theorem sts_real {ρ : Ev.Ren} {h : H} {w : World} (r : Rel ρ h w) {v v' : Value} (hv : VR ρ v v') {l : List St} (e : decS 6 (decSt h) h v = some l) : StsW w v' l := by
 obtain ⟨a,c,h1,h2,h3,h4⟩ := decS_real r hv e
 refine ⟨a,c,h1,h2,fun i s hs => ?_⟩
 obtain ⟨b,f,cs,cs',e1,e2,e3,e4,e5⟩ := h4 i s hs
 unfold decSt at e3
 split at e3
 ·rename_i k z1 z2 z3 p ov
  obtain ⟨ops,ho,rfl⟩ := Option.map_eq_some_iff.1 e3
  cases e4 with
  | cons q0 e4 => cases e4 with
   | cons q1 e4 => cases e4 with
    | cons q2 e4 => cases e4 with
     | cons q3 e4 => cases e4 with
      | cons q4 e4 => cases e4 with
       | cons q5 e4 =>
        cases e4
        cases q0;cases q1;cases q2;cases q3;cases q4
        exact ⟨b,f,_,e1,e2,ops_real r q5 ho,by simpa using e5 0 _ rfl,e5 1 _ rfl,e5 2 _ rfl,e5 3 _ rfl,e5 4 _ rfl,e5 5 _ rfl⟩
 ·cases e3
theorem wat_real {ρ : Ev.Ren} {h : H} {w : World} (r : Rel ρ h w) (e : watB h = true) : WatW w := by
 unfold watB at e
 split at e
 ·rename_i a b c d rest es lv an hg
  have hg' : h[1]? = some (.cells (.string a :: .string b :: .string c :: .string d :: rest) es lv an) := hg
  have hb := r.glb 1 (by decide)
  have hbr : BR ρ ⟨1,0,0,0⟩ w (.cells (.string a :: .string b :: .string c :: .string d :: rest) es lv an) := r.blk _ _ _ hb hg'
  simp only [Bool.and_eq_true,beq_iff_eq] at e
  obtain ⟨⟨⟨ea,eb⟩,ec⟩,ed⟩ := e
  have c0 : w.cell? ⟨1,0,none⟩ = some (.string a) := by
   obtain ⟨v',h1,h2⟩ := hbr.2.2 0 _ rfl
   cases h2;exact h1
  have c1 : w.cell? ⟨1,1,none⟩ = some (.string b) := by
   obtain ⟨v',h1,h2⟩ := hbr.2.2 1 _ rfl
   cases h2;exact h1
  have c2 : w.cell? ⟨1,2,none⟩ = some (.string c) := by
   obtain ⟨v',h1,h2⟩ := hbr.2.2 2 _ rfl
   cases h2;exact h1
  have c3 : w.cell? ⟨1,3,none⟩ = some (.string d) := by
   obtain ⟨v',h1,h2⟩ := hbr.2.2 3 _ rfl
   cases h2;exact h1
  have hblk : ∃ arr t fr,w.heap[1]? = some (.cells arr t fr) := by
   unfold World.cell? at c0
   split at c0
   ·rename_i c T fr hc;exact ⟨c,T,fr,hc⟩
   ·cases c0
  obtain ⟨arr,t,fr,hblk⟩ := hblk
  simp only [World.cell?,hblk] at c0 c1 c2 c3
  refine ⟨arr,t,fr,arr.toList.drop 4,hblk,?_⟩
  have g : ∀ j x,arr[j]? = some x → arr.toList[j]? = some x := fun j x hx => by rw [Array.getElem?_toList];exact hx
  have d0 := drop_at (g 0 _ (by simpa using c0))
  have d1 := drop_at (g 1 _ (by simpa using c1))
  have d2 := drop_at (g 2 _ (by simpa using c2))
  have d3 := drop_at (g 3 _ (by simpa using c3))
  rw [← List.drop_zero (l := arr.toList),d0,d1,d2,d3,ofB_of ea,ofB_of eb,ofB_of ec,ofB_of ed]
  rfl
 ·cases e
theorem old_rel {ρ : Ev.Ren} {h : H} {w w' : World} (r : Rel ρ h w) (k : Old w.heap.size w w') : Rel ρ h w' ∧ Ext ρ h w ρ h w' := by
 have hs := k.size
 refine ⟨⟨⟨r.dom,fun b i hb => Nat.lt_of_lt_of_le (r.bnd b i hb) hs,fun b i x hb hx => (r.blk b i x hb hx).keep (.refl _) (k.block _ (r.bnd b i hb)),r.sep,r.anc,r.glb⟩,r.gt.dead,?_⟩,?_⟩
 ·obtain ⟨t,fr,e⟩ := r.gt.tab
  exact ⟨t,fr,(k.block gTab (Nat.lt_of_lt_of_le (by decide) r.gsize)).trans e⟩
 ·exact ⟨.refl _,Nat.le_refl _,hs,fun _ _ _ => rfl,fun b' hb' _ => k.block b' hb',fun _ _ h => .inl h,fun _ _ _ _ h1 h2 h3 => by rw [h1] at h2;cases h2;exact h3,k.os,k.output⟩
theorem printV_pan (z : Rn.WRes) : isPan (printV z) = false := by cases z <;> rfl
theorem printV_rel (ρ : Ev.Ren) (z : Rn.WRes) : VR ρ (printV z) (printW z) := by
 cases z with
 | ok t => exact .tuple (.cons (.string _) (.cons (.int _ _) .nil))
 | long => exact .tuple (.cons (.string _) (.cons (.int _ _) .nil))
 | bad => exact .tuple (.cons (.string _) (.cons (.int _ _) .nil))
theorem decRu_inv {cs : List Value} {r : Ru} (e : decRu cs = some r) : cs = ruC r := by
 unfold decRu at e
 split at e
 ·cases e;rfl
 ·cases e
theorem xPrint_inv {args : List Value} {h : H} {r : Value} {h' : H} (e : xPrint args h = some (r,h')) : ∃ ru v l,args = [.agg ⟨ruC ru⟩,v] ∧ watB h = true ∧ decS 6 (decSt h) h v = some l ∧ r = printV (Rn.print ru l) ∧ h' = h := by
 unfold xPrint at e
 split at e
 ·rename_i rc v
  split at e
  ·rename_i hw
   split at e
   ·rename_i ru l hr hl
    injection e with e
    injection e with e1 e2
    exact ⟨ru,v,l,by rw [decRu_inv hr],hw,hl,e1.symm,e2.symm⟩
   ·cases e
  ·cases e
 ·cases e
theorem print_ok : CallOk Tryz.prog (fun g args h => if g = 14 then xPrint args h else none) := by
 refine x_of (by kernel_rfl) fun args h r h' e => ?_
 obtain ⟨ru,v,l,rfl,hw,hl,rfl,rfl⟩ := xPrint_inv e
 refine ⟨printV_pan _,fun ρ w args' rl hv => ?_⟩
 obtain ⟨a',b',rfl,h1,h2⟩ := args2 hv
 cases h1 with
 | agg hc =>
  rename_i cs'
  have := vrs_plain hc (by simp [ruC])
  subst this
  have hg : Vars w := ⟨rl.gsize,rl.gt.tab⟩
  have hq := print_walk num_k step_k ru l b' w hg (wat_real rl hw) (sts_real rl h2 hl)
  generalize Rn.print ru l = z at *
  refine Calls.mono hq ?_
  rintro e w' ⟨rfl,ho⟩
  obtain ⟨g1,g2⟩ := old_rel rl ho
  exact ⟨_,ρ,rfl,printV_rel ρ z,g1,g2⟩
theorem X_ok1 : XOk Tryz.prog (X true) := by
 intro f x hx
 unfold X at hx
 split at hx <;> first
  | (cases hx;exact print_ok)
  | (cases hx;exact split_ok)
  | (cases hx;exact itoa_ok)
  | (cases hx;exact join_ok)
  | (cases hx;exact quote_ok)
  | (cases hx;exact atoi_ok)
  | (cases hx;exact idx_ok)
  | (simp at hx)
theorem cf_ok1 (F : Nat) : CallOk Tryz.prog (cf true F) := evFn_sound splitL.mixed tbl_ok X_ok1 XD_ok F
end YtnoghchcboiojaaGreatDoor
end Go.Proofs
end
section
set_option maxRecDepth 100000
namespace Go.Proofs.YtnoghchcboiojaaGreatDoor
open Go.Ev
open Go.Rn (Bs small digit bare blank hex)
variable {p : Bool} {F : Nat} {h : H}
theorem rsmall_eq (c : UInt8) : cf p (F + 1) 46 [.int .u8 c.toNat] h = some (.bool (small c),h) := by
 rw [cf_step (a := a46) rfl rfl (by simp [a46])]
 have e := small_p c
 by_cases h1 : (c.toNat : Int) ≥ 97
 ·simp [a46,r46_0,r46_1,h1] at e ⊢
  exact e
 ·simp [a46,r46_0,r46_1,h1] at e ⊢
  exact e
theorem rdigit_eq (c : UInt8) : cf p (F + 1) 47 [.int .u8 c.toNat] h = some (.bool (digit c),h) := by
 rw [cf_step (a := a47) rfl rfl (by simp [a47])]
 have e := digit_p c
 by_cases h1 : (c.toNat : Int) ≥ 48
 ·simp [a47,r47_0,r47_1,h1] at e ⊢
  exact e
 ·simp [a47,r47_0,r47_1,h1] at e ⊢
  exact e
@[simp] theorem be95 (c : UInt8) : ((c.toNat : Int) == 95) = decide (c = 95) := byte_beq c 95 (by decide)
@[simp] theorem be46 (c : UInt8) : ((c.toNat : Int) == 46) = decide (c = 46) := byte_beq c 46 (by decide)
theorem rbare_eq (c : UInt8) : cf p (F + 2) 48 [.int .u8 c.toNat] h = some (.bool (bare c),h) := by
 rw [cf_step (a := a48) rfl rfl (by simp [a48])]
 have e1 := rsmall_eq (p := p) (F := F) (h := h) c
 have e2 := rdigit_eq (p := p) (F := F) (h := h) c
 by_cases hx : c = 47 ∨ c = 45 ∨ c = 95 ∨ c = 46
 ·rcases hx with rfl | rfl | rfl | rfl
  ·rw [show small 47 = false from by decide] at e1
   rw [show digit 47 = false from by decide] at e2
   rw [show bare 47 = true from by decide]
   simp at e1 e2
   simp [a48,r48_0,r48_1,e1,e2]
  ·rw [show small 45 = false from by decide] at e1
   rw [show digit 45 = false from by decide] at e2
   rw [show bare 45 = true from by decide]
   simp at e1 e2
   simp [a48,r48_0,r48_1,e1,e2]
  ·rw [show small 95 = false from by decide] at e1
   rw [show digit 95 = false from by decide] at e2
   rw [show bare 95 = true from by decide]
   simp at e1 e2
   simp [a48,r48_0,r48_1,e1,e2]
  ·rw [show small 46 = false from by decide] at e1
   rw [show digit 46 = false from by decide] at e2
   rw [show bare 46 = true from by decide]
   simp at e1 e2
   simp [a48,r48_0,r48_1,e1,e2]
 ·simp only [not_or] at hx
  obtain ⟨x1,x2,x3,x4⟩ := hx
  have e5 := upper_p c
  have e6 : bare c = (small c || digit c || (decide ((c.toNat : Int) ≥ 65) && decide ((c.toNat : Int) ≤ 90))) := by
   have y1 : (c == 47) = false := beq_eq_false_iff_ne.2 x1
   have y2 : (c == 45) = false := beq_eq_false_iff_ne.2 x2
   have y3 : (c == 95) = false := beq_eq_false_iff_ne.2 x3
   have y4 : (c == 46) = false := beq_eq_false_iff_ne.2 x4
   rw [e5]
   unfold bare
   rw [y1,y2,y3,y4]
   simp
  rw [e6]
  clear e5 e6
  generalize small c = s1 at *
  generalize digit c = s2 at *
  cases s1
  ·cases s2
   ·by_cases h1 : (c.toNat : Int) ≥ 65
    ·by_cases h2 : (c.toNat : Int) ≤ 90
     ·simp [a48,r48_0,r48_1,e1,e2,h1,h2]
     ·simp [a48,r48_0,r48_1,e1,e2,h1,h2,x1,x2,x3,x4]
    ·simp [a48,r48_0,r48_1,e1,e2,h1,x1,x2,x3,x4]
   ·simp [a48,r48_0,r48_1,e1,e2]
  ·simp [a48,r48_0,r48_1,e1,e2]
theorem rhex1 : ∀ c : UInt8,digit c = true → IntKind.i64.wrap (IntKind.i64.wrap (c.toNat : Int) - 48) = hexI c := Go.Rn.u8 (p := fun c => digit c = true → IntKind.i64.wrap (IntKind.i64.wrap (c.toNat : Int) - 48) = hexI c) (by decide +kernel)
theorem rhex2 : ∀ c : UInt8,digit c = false → 97 ≤ (c.toNat : Int) → (c.toNat : Int) ≤ 102 → IntKind.i64.wrap (IntKind.i64.wrap (IntKind.i64.wrap (c.toNat : Int) - 97) + 10) = hexI c := Go.Rn.u8 (p := fun c => digit c = false → 97 ≤ (c.toNat : Int) → (c.toNat : Int) ≤ 102 → IntKind.i64.wrap (IntKind.i64.wrap (IntKind.i64.wrap (c.toNat : Int) - 97) + 10) = hexI c) (by decide +kernel)
theorem rhex3 : ∀ c : UInt8,digit c = false → 65 ≤ (c.toNat : Int) → (c.toNat : Int) ≤ 70 → IntKind.i64.wrap (IntKind.i64.wrap (IntKind.i64.wrap (c.toNat : Int) - 65) + 10) = hexI c := Go.Rn.u8 (p := fun c => digit c = false → 65 ≤ (c.toNat : Int) → (c.toNat : Int) ≤ 70 → IntKind.i64.wrap (IntKind.i64.wrap (IntKind.i64.wrap (c.toNat : Int) - 65) + 10) = hexI c) (by decide +kernel)
theorem rhex_eq (c : UInt8) : cf p (F + 2) 79 [.int .u8 c.toNat] h = some (vi (hexI c),h) := by
 rw [cf_step (a := a79) rfl rfl (by simp [a79])]
 have e2 := rdigit_eq (p := p) (F := F) (h := h) c
 have q1 := rhex1 c
 have q2 := rhex2 c
 have q3 := rhex3 c
 have q4 := hex4 c
 generalize hexI c = z at *
 cases hd : digit c with
 | true =>
  rw [hd] at e2 q1
  simp [a79,r79_0,r79_1,r79_2,e2,q1 rfl]
 | false =>
  rw [hd] at e2
  by_cases h1 : 97 ≤ (c.toNat : Int)
  ·by_cases h2 : (c.toNat : Int) ≤ 102
   ·simp [a79,r79_0,r79_1,r79_3,r79_4,e2,h1,h2,q2 hd h1 h2]
   ·have h3 : ¬ (c.toNat : Int) ≤ 70 := by omega
    have h4 : (65 : Int) ≤ c.toNat := by omega
    simp [a79,r79_0,r79_1,r79_3,r79_5,r79_7,e2,h1,h2,h3,h4,q4 hd (fun q => h2 q.2) (fun q => h3 q.2)]
  ·by_cases h4 : (65 : Int) ≤ c.toNat
   ·by_cases h3 : (c.toNat : Int) ≤ 70
    ·simp [a79,r79_0,r79_1,r79_3,r79_5,r79_6,e2,h1,h3,h4,q3 hd h4 h3]
    ·simp [a79,r79_0,r79_1,r79_3,r79_5,r79_7,e2,h1,h3,h4,q4 hd (fun q => h1 q.1) (fun q => h3 q.2)]
   ·simp [a79,r79_0,r79_1,r79_3,r79_5,r79_7,e2,h1,h4,q4 hd (fun q => h1 q.1) (fun q => h4 q.1)]
end Go.Proofs.YtnoghchcboiojaaGreatDoor
end
section
set_option maxRecDepth 100000
namespace Go.Proofs.YtnoghchcboiojaaGreatDoor
open Go.Ev
open Go.Rn (Bs quo quo_cons quo_nil hex)
variable {p : Bool} {F : Nat} {h : H}
theorem ofB_app (a b : Bs) : ofB a ++ ofB b = ofB (a ++ b) := by
 apply ByteArray.ext
 apply Array.ext'
 simp [ofB]
theorem atS_off {l : Bs} {i k : Nat} {c : UInt8} {g : H} (hc : l[i + k]? = some c) : atS (ofB l) ((i : Int) + (k : Nat)) g = some (.int .u8 c.toNat,g) := by
 rw [← Int.natCast_add];exact atS_ofB hc
theorem cut_one {l : Bs} {i : Nat} {c : UInt8} {g : H} (hc : l[i]? = some c) : cutS (ofB l) i (i + 1) g = some (vs [c],g) := by
 have hi := (List.getElem?_eq_some_iff.1 hc).1
 rw [cutS_ofB (by omega) (by omega),drop_cons hc]
 simp
theorem byte_text (c : UInt8) (g : H) : toStr (.slice (some ⟨g.size,0,none⟩) 1 1) (Ev.newRow g [.int .u8 c.toNat] 1 []) = some (vs [c],Ev.newRow g [.int .u8 c.toNat] 1 []) := by
 simp [toStr,rd,strOf]
 rfl
theorem sum_fin : ∀ m n : Fin 16,IntKind.u8.wrap (IntKind.i64.wrap (IntKind.i64.wrap (16 * (m.val : Int)) + n.val)) = ((16 * UInt8.ofNat m.val + UInt8.ofNat n.val).toNat : Int) := by decide +kernel
theorem hex_sum {a b x y : UInt8} (ha : hex a = some x) (hb : hex b = some y) : IntKind.u8.wrap (IntKind.i64.wrap (IntKind.i64.wrap (16 * hexI a) + hexI b)) = ((16 * x + y).toNat : Int) := by
 have := sum_fin ⟨x.toNat,hex_lt a x ha⟩ ⟨y.toNat,hex_lt b y hb⟩
 simpa [hexI,ha,hb] using this
def rquoV (l : Bs) : Option (Bs × Bs) → Value
 | some (s,r) => .tuple ⟨[vs s,vi (l.length - r.length),.bool true]⟩
 | none => .tuple ⟨[vs [],vi 0,.bool false]⟩
theorem rquoted_spec (l : Bs) (i0 : Nat) (hi0 : i0 < l.length) (hF : l.length + 1 < F) (hl : l.length < 140737488355328) : Ans (cf p (F + 4) 49 [vs l,vi i0] h) fun v h' => Kept h h' [] ∧ v = rquoV l (quo (l.drop (i0 + 1))) := by
 rw [cf_step (a := a49) rfl rfl (by simp [a49])]
 have hw : IntKind.i64.wrap ((i0 : Int) + 1) = ((i0 + 1 : Nat) : Int) := by rw [wrap_in (by omega) (by omega)];omega
 simp [a49,r49_0,r49_1,r49_2,hw,lit_nil]
 refine loop_rule (fun m s g => ∃ (i : Nat) (acc : Bs),i ≤ l.length ∧ m = l.length + 1 - i ∧ Kept h g [] ∧ s = [(0,vs l),(7,vs acc),(8,vi i)] ∧ acc.length ≤ i ∧
   quo (l.drop (i0 + 1)) = (quo (l.drop i)).map fun q => (acc ++ q.1,q.2))
  ?_ (F + 3) (l.length + 1 - (i0 + 1)) _ _ (by omega) ⟨i0 + 1,[],by omega,rfl,Kept.refl _ _,rfl,by simp,by simp⟩
 rintro m s g again ⟨i,acc,h2,rfl,hk,rfl,hal,hq⟩ hag
 by_cases hlt : i < l.length
 ·obtain ⟨c,hc⟩ : ∃ c,l[i]? = some c := ⟨_,List.getElem?_eq_getElem hlt⟩
  have hd := drop_cons hc
  have hlt' : (i : Int) < l.length := by omega
  have g1 : atS (ofB l) (i : Int) g = some (.int .u8 c.toNat,g) := atS_ofB hc
  rw [hd] at hq
  rw [quo_cons] at hq
  by_cases c1 : c = 34
  ·subst c1
   rw [if_pos rfl] at hq
   simp (disch := first|omega|(simp only [zS];first|done|omega)) [l49_28,r49_3,r49_4,r49_5,r49_6,hlt',g1,wrap_id]
   refine Ans.of ⟨hk,?_⟩
   have e3 : (i : Int) + 1 = (l.length : Int) - ((l.drop (i + 1)).length : Int) := by rw [List.length_drop];omega
   rw [hq]
   simp only [rquoV,Option.map_some,List.append_nil,← e3]
  rw [if_neg c1] at hq
  by_cases c2 : (decide (c < 32) || decide (c = 127)) = true
  ·rw [if_pos c2] at hq
   have c2' := (ctl_p c).trans c2
   by_cases c3 : (c.toNat : Int) < 32
   ·simp (disch := first|omega|(simp only [zS];first|done|omega)) [l49_28,r49_3,r49_4,r49_5,r49_7,r49_8,hlt',g1,c1,c3]
    refine Ans.of ⟨hk,?_⟩
    rw [hq];rfl
   ·simp [c3] at c2'
    subst c2'
    simp (disch := first|omega|(simp only [zS];first|done|omega)) [l49_28,r49_3,r49_4,r49_5,r49_7,r49_8,hlt',g1]
    refine Ans.of ⟨hk,?_⟩
    rw [hq];rfl
  rw [if_neg c2] at hq
  have c2' : ¬ ((c.toNat : Int) < 32) ∧ ¬ c = 127 := by
   have := (ctl_p c).trans (Bool.eq_false_iff.2 c2)
   simpa using this
  have z1 : (0 : Int) ≤ (i : Int) + 1 := by omega
  have z2 : ((i : Int) + 1).toNat = i + 1 := by omega
  have fin : ∀ (k : Nat) (x : Bs) (g' : H) (z : Int),1 ≤ k → i + k ≤ l.length → Kept h g' [] → x.length ≤ k → quo (l.drop (i0 + 1)) = (quo (l.drop (i + k))).map (fun q => ((acc ++ x) ++ q.1,q.2)) →
    z = (i : Int) + k → Ans (again [(0,vs l),(7,vs (acc ++ x)),(8,vi z)] g' []) fun v h' => Kept h h' [] ∧ v = rquoV l (quo (l.drop (i0 + 1))) := by
   intro k x g' z k1 k2 k3 k4 k5 k6
   subst k6
   exact hag (l.length + 1 - (i + k)) _ _ (by omega) ⟨i + k,acc ++ x,k2,rfl,k3,by rw [Int.natCast_add],by simp;omega,k5⟩
  have hno : ¬ (9223372036854775807 : Int) < (acc.length : Int) + 1 := by omega
  by_cases c4 : c = 92
  ·subst c4
   simp only [ne_eq,not_true_eq_false,if_false] at hq
   by_cases hlt2 : i + 1 < l.length
   ·obtain ⟨e,he⟩ : ∃ e,l[i + 1]? = some e := ⟨_,List.getElem?_eq_getElem hlt2⟩
    have hd1 := drop_cons he
    rw [hd1] at hq
    simp only at hq
    have hn2 : ¬ ((l.length : Int) ≤ (i : Int) + 1) := by omega
    have g2 : atS (ofB l) ((i : Int) + 1) g = some (.int .u8 e.toNat,g) := atS_off (k := 1) he
    by_cases e1 : e = 34 ∨ e = 92
    ·rw [if_pos (by simpa using e1)] at hq
     have hcut := cut_one (g := g) he
     have z3 : (0 : Int) ≤ (i : Int) + 2 := by omega
     have z4 : ((i : Int) + 2).toNat = i + 1 + 1 := by omega
     rcases e1 with rfl | rfl
     ·simp (disch := first|omega|(simp only [zS];first|done|omega)) [l49_28,r49_3,r49_4,r49_5,r49_7,r49_9,r49_12,r49_14,r49_15,r49_17,r49_18,hlt',g1,wrap_id,hn2,g2,pcS_eq,z1,z2,z3,z4,hcut,hno,ofB_app]
      refine fin 2 _ g _ (by omega) (by omega) hk (by simp) ?_ (by omega)
      rw [hq];simp [Option.map_map,Function.comp_def]
     ·simp (disch := first|omega|(simp only [zS];first|done|omega)) [l49_28,r49_3,r49_4,r49_5,r49_7,r49_9,r49_12,r49_14,r49_15,r49_16,r49_17,r49_18,hlt',g1,wrap_id,hn2,g2,pcS_eq,z1,z2,z3,z4,hcut,hno,ofB_app]
      refine fin 2 _ g _ (by omega) (by omega) hk (by simp) ?_ (by omega)
      rw [hq];simp [Option.map_map,Function.comp_def]
    rw [if_neg (by simpa using e1)] at hq
    simp only [not_or] at e1
    by_cases e2 : e = 110
    ·subst e2
     rw [if_pos rfl] at hq
     simp (disch := first|omega|(simp only [zS];first|done|omega)) [l49_28,r49_3,r49_4,r49_5,r49_7,r49_9,r49_12,r49_14,r49_15,r49_16,r49_19,r49_20,r49_21,hlt',g1,wrap_id,hn2,g2,lit_ten,hno,ofB_app]
     refine fin 2 _ g _ (by omega) (by omega) hk (by simp) ?_ (by omega)
     rw [hq];simp [Option.map_map,Function.comp_def]
    rw [if_neg e2] at hq
    by_cases e3 : e = 120
    ·subst e3
     rw [if_pos rfl] at hq
     by_cases hlt3 : i + 3 < l.length
     ·obtain ⟨a,ha⟩ : ∃ a,l[i + 2]? = some a := ⟨_,List.getElem?_eq_getElem (by omega)⟩
      obtain ⟨b,hb⟩ : ∃ b,l[i + 3]? = some b := ⟨_,List.getElem?_eq_getElem hlt3⟩
      have hda := drop_cons ha
      have hdb := drop_cons hb
      rw [show i + 1 + 1 = i + 2 from rfl,hda,show i + 2 + 1 = i + 3 from rfl,hdb] at hq
      simp only at hq
      have hn3 : ¬ ((l.length : Int) ≤ (i : Int) + 3) := by omega
      have ga : ∀ g,atS (ofB l) ((i : Int) + 2) g = some (.int .u8 a.toNat,g) := fun g => atS_off (k := 2) ha
      have gb : ∀ g,atS (ofB l) ((i : Int) + 3) g = some (.int .u8 b.toNat,g) := fun g => atS_off (k := 3) hb
      have ea := fun g => rhex_eq (p := p) (F := F + 1) (h := g) a
      have eb := fun g => rhex_eq (p := p) (F := F + 1) (h := g) b
      cases hxa : hex a with
      | none =>
       rw [hxa] at hq
       simp only at hq
       have na : hexI a < 0 := by simp [hexI,hxa]
       simp (disch := first|omega|(simp only [zS];first|done|omega)) [l49_28,r49_3,r49_4,r49_5,r49_7,r49_9,r49_12,r49_14,r49_15,r49_16,r49_19,r49_22,r49_23,r49_24,hlt',g1,wrap_id,hn2,g2,hn3,ga,ea,na]
       refine Ans.of ⟨hk,?_⟩
       rw [hq];rfl
      | some x =>
       have na : ¬ hexI a < 0 := by simp [hexI,hxa]
       cases hxb : hex b with
       | none =>
        rw [hxa,hxb] at hq
        simp only at hq
        have nb : hexI b < 0 := by simp [hexI,hxb]
        simp (disch := first|omega|(simp only [zS];first|done|omega)) [l49_28,r49_3,r49_4,r49_5,r49_7,r49_9,r49_12,r49_14,r49_15,r49_16,r49_19,r49_22,r49_23,r49_24,hlt',g1,wrap_id,hn2,g2,hn3,ga,ea,na,gb,eb,nb]
        refine Ans.of ⟨hk,?_⟩
        rw [hq];rfl
       | some y =>
        rw [hxa,hxb] at hq
        simp only at hq
        have nb : ¬ hexI b < 0 := by simp [hexI,hxb]
        have hval := hex_sum hxa hxb
        have hbt := byte_text (16 * x + y) g
        have kb := hk.trans (rowKept g [.int .u8 (16 * x + y).toNat] 1 [])
        generalize 16 * x + y = ww at *
        simp (disch := first|omega|(simp only [zS];first|done|omega)) [l49_28,r49_3,r49_4,r49_5,r49_7,r49_9,r49_12,r49_14,r49_15,r49_16,r49_19,r49_22,r49_23,d49_25,hlt',g1,wrap_id,hn2,g2,hn3,ga,ea,na,gb,eb,nb,hval,hbt,hno,ofB_app,r49_26]
        refine fin 4 [ww] _ ((i : Int) + 4) (by omega) (by omega) kb (by simp) ?_ (by omega)
        rw [hq];simp [Option.map_map,Function.comp_def]
     ·have hn3 : ((l.length : Int) ≤ (i : Int) + 3) := by omega
      have hsh : quo (l.drop (i0 + 1)) = none := by
       rw [hq]
       have : (l.drop (i + 1 + 1)).length < 2 := by rw [List.length_drop];omega
       match l.drop (i + 1 + 1),this with
       | [],_ => rfl
       | [_],_ => rfl
      simp (disch := first|omega|(simp only [zS];first|done|omega)) [l49_28,r49_3,r49_4,r49_5,r49_7,r49_9,r49_12,r49_14,r49_15,r49_16,r49_19,r49_22,r49_23,r49_24,hlt',g1,wrap_id,hn2,g2,hn3]
      refine Ans.of ⟨hk,?_⟩
      rw [hsh];rfl
    ·rw [if_neg e3] at hq
     simp (disch := first|omega|(simp only [zS];first|done|omega)) [l49_28,r49_3,r49_4,r49_5,r49_7,r49_9,r49_12,r49_14,r49_15,r49_16,r49_19,r49_22,r49_27,hlt',g1,wrap_id,hn2,g2,e1.1,e1.2,e2,e3]
     refine Ans.of ⟨hk,?_⟩
     rw [hq];rfl
   ·have e1 : l.drop (i + 1) = [] := List.drop_eq_nil_iff.2 (by omega)
    rw [e1] at hq
    simp only at hq
    have hn2 : ((l.length : Int) ≤ (i : Int) + 1) := by omega
    simp (disch := first|omega|(simp only [zS];first|done|omega)) [l49_28,r49_3,r49_4,r49_5,r49_7,r49_9,r49_12,r49_13,hlt',g1,wrap_id,hn2]
    refine Ans.of ⟨hk,?_⟩
    rw [hq];rfl
  ·rw [if_pos c4] at hq
   have hcut := cut_one (g := g) hc
   simp (disch := first|omega|(simp only [zS];first|done|omega)) [l49_28,r49_3,r49_4,r49_5,r49_7,r49_9,r49_10,r49_11,hlt',g1,c1,c2'.1,c2'.2,c4,pcS_eq,wrap_id,z1,z2,hcut,hno,ofB_app]
   refine fin 1 _ g _ (by omega) (by omega) hk (by simp) ?_ (by omega)
   rw [hq];simp [Option.map_map,Function.comp_def]
 ·have : i = l.length := by omega
  subst this
  simp (disch := first|omega|(simp only [zS];first|done|omega)) [l49_28,r49_3,r49_29]
  refine Ans.of ⟨hk,?_⟩
  rw [hq,List.drop_eq_nil_iff.2 (Nat.le_refl _),quo_nil]
  rfl
end Go.Proofs.YtnoghchcboiojaaGreatDoor
end
section
set_option maxRecDepth 100000
namespace Go.Proofs.YtnoghchcboiojaaGreatDoor
open Go.Ev
open Go.Rn (Bs small digit natOf numeral numeral1)
variable {p : Bool} {F : Nat} {h : H}
def capN (D : Bs) : Nat := D.foldl (fun v c => if v ≤ 2147483647 then 10 * v + (c.toNat - 48) else v) 0
theorem cap_full : ∀ (D : Bs) (v : Nat),(D.foldl (fun v c => 10 * v + (c.toNat - 48)) v ≤ 2147483647 → D.foldl (fun v c => if v ≤ 2147483647 then 10 * v + (c.toNat - 48) else v) v = D.foldl (fun v c => 10 * v + (c.toNat - 48)) v) ∧
  (2147483647 < D.foldl (fun v c => 10 * v + (c.toNat - 48)) v → 2147483647 < D.foldl (fun v c => if v ≤ 2147483647 then 10 * v + (c.toNat - 48) else v) v)
 | [],v => ⟨fun _ => rfl,fun h => h⟩
 | c :: D,v => by
  simp only [List.foldl_cons]
  by_cases hv : v ≤ 2147483647
  ·rw [if_pos hv];exact cap_full D _
  ·rw [if_neg hv]
   have mono : ∀ (D : Bs) (v : Nat),v ≤ D.foldl (fun v c => 10 * v + (c.toNat - 48)) v := by
    intro D
    induction D with
    | nil => intro v;simp
    | cons c D ih => intro v;simp only [List.foldl_cons];have := ih (10 * v + (c.toNat - 48));omega
   have stay : ∀ (D : Bs),D.foldl (fun v c => if v ≤ 2147483647 then 10 * v + (c.toNat - 48) else v) v = v := by
    intro D
    induction D with
    | nil => rfl
    | cons c D ih => simp only [List.foldl_cons,if_neg hv];exact ih
   have := mono D (10 * v + (c.toNat - 48))
   rw [stay]
   refine ⟨fun q => ?_,fun _ => ?_⟩ <;> omega
theorem cap_le {D : Bs} (h : natOf D ≤ 2147483647) : capN D = natOf D := (cap_full D 0).1 h
theorem cap_gt {D : Bs} (h : 2147483647 < natOf D) : 2147483647 < capN D := (cap_full D 0).2 h
theorem cap_snoc (D : Bs) (c : UInt8) : capN (D ++ [c]) = if capN D ≤ 2147483647 then 10 * capN D + (c.toNat - 48) else capN D := by
 unfold capN
 rw [List.foldl_append]
 generalize List.foldl (fun v c => if v ≤ 2147483647 then 10 * v + (c.toNat - 48) else v) 0 D = z
 simp only [List.foldl_cons,List.foldl_nil]
theorem cap_lt : ∀ (D : Bs),(∀ c ∈ D,digit c = true) → capN D < 21474836480 := by
 intro D hD
 have : ∀ (D : Bs) (v : Nat),v < 21474836480 → (∀ c ∈ D,digit c = true) → D.foldl (fun v c => if v ≤ 2147483647 then 10 * v + (c.toNat - 48) else v) v < 21474836480 := by
  intro D
  induction D with
  | nil => intro v hv _;exact hv
  | cons c D ih =>
   intro v hv hD
   simp only [List.foldl_cons]
   refine ih _ ?_ fun x hx => hD x (by simp [hx])
   split
   ·have hc := hD c (by simp)
    unfold digit at hc
    simp only [Bool.and_eq_true,decide_eq_true_eq,UInt8.le_iff_toNat_le] at hc
    have h57 : (57 : UInt8).toNat = 57 := rfl
    omega
   ·exact hv
 exact this D 0 (by omega) hD
theorem nat_ge {D : Bs} (hd : ∀ c ∈ D,digit c = true) {c : UInt8} {r : Bs} (e : D = c :: r) (h0 : c ≠ 48) : 10 ^ r.length ≤ natOf D := by
 have ge : ∀ (D : Bs) (v : Nat),v * 10 ^ D.length ≤ D.foldl (fun v c => 10 * v + (c.toNat - 48)) v := by
  intro D
  induction D with
  | nil => intro v;simp
  | cons c D ih =>
   intro v
   simp only [List.foldl_cons,List.length_cons,Nat.pow_succ]
   refine Nat.le_trans ?_ (ih _)
   rw [Nat.mul_comm (10 ^ D.length) 10,← Nat.mul_assoc]
   exact Nat.mul_le_mul_right _ (by omega)
 subst e
 have hc := hd c (by simp)
 unfold digit at hc
 simp only [Bool.and_eq_true,decide_eq_true_eq,UInt8.le_iff_toNat_le] at hc
 have h48 : (48 : UInt8).toNat = 48 := rfl
 have hne : c.toNat ≠ 48 := fun q => h0 (by apply UInt8.toNat_inj.1;rw [q,h48])
 have := ge r (10 * 0 + (c.toNat - 48))
 simp only [natOf,List.foldl_cons]
 refine Nat.le_trans ?_ this
 exact Nat.le_trans (by omega) (Nat.mul_le_mul_right _ (show 1 ≤ 10 * 0 + (c.toNat - 48) by omega))
theorem numeral1_ref (minus : Bool) (l1 : Bs) : numeral1 minus l1 =
  if (l1.takeWhile digit).length == 0 || decide (2147483647 < capN (l1.takeWhile digit)) || ((l1.takeWhile digit).head? == some 48 && (decide ((l1.takeWhile digit).length > 1) || minus)) || (l1.dropWhile digit).head?.any small then none
  else some (if minus = true then -(capN (l1.takeWhile digit) : Int) else capN (l1.takeWhile digit),l1.dropWhile digit) := by
 have hdig := takeWhile_digit l1
 unfold numeral1
 generalize l1.takeWhile digit = D at *
 generalize (l1.dropWhile digit).head?.any small = s
 generalize l1.dropWhile digit = R
 by_cases hM : natOf D ≤ 2147483647
 ·rw [cap_le hM]
  have h1 : ¬ (2147483647 < natOf D) := by omega
  by_cases h10 : D.length > 10
  ·have hz : D.head? = some 48 := by
    cases D with
    | nil => simp at h10
    | cons c r =>
     by_cases hc : c = 48
     ·simp [hc]
     ·have := nat_ge hdig rfl hc
      have h2 : 10 ^ 10 ≤ 10 ^ r.length := Nat.pow_le_pow_right (by decide) (by simp at h10;omega)
      have h3 : (10 : Nat) ^ 10 = 10000000000 := by decide
      omega
   have h2 : D.length > 1 := by omega
   simp [h10,hz,h2]
  ·simp [h10,h1]
 ·have h1 : 2147483647 < natOf D := by omega
  have h2 := cap_gt h1
  simp [h1,h2]
end Go.Proofs.YtnoghchcboiojaaGreatDoor
end
section
set_option maxRecDepth 100000
namespace Go.Proofs.YtnoghchcboiojaaGreatDoor
open Go.Ev
open Go.Rn (Bs small digit natOf numeral numeral1)
variable {p : Bool} {F : Nat} {h : H}
def RS50 : List ARes := [.tmp 4,.tmp 5,.tmp 6]
def E50 (p : Bool) (F : Nat) : K := evC (F + 1) (cxOf (cf p (F + 1)) (cfX XD) RS50) (.seq (.seq (.region r50_11 [1,7,8,9,75]) (.cond (.tmp 75) (.seq (.region r50_12 [4,5,6]) .ret) .skip)) (.seq (.seq (.region r50_13 [7,9,78]) (.cond (.tmp 78) (.region r50_14 [7,9]) .skip)) (.seq (.region r50_15 [4,5,6]) .ret))) (endK (cfX XD) RS50) noK (endK (cfX XD) RS50)
theorem E50_eq {s : Env} {g : H} {ds : Ds} : E50 p F s g ds = evC (F + 1) (cxOf (cf p (F + 1)) (cfX XD) RS50) (.seq (.seq (.region r50_11 [1,7,8,9,75]) (.cond (.tmp 75) (.seq (.region r50_12 [4,5,6]) .ret) .skip)) (.seq (.seq (.region r50_13 [7,9,78]) (.cond (.tmp 78) (.region r50_14 [7,9]) .skip)) (.seq (.region r50_15 [4,5,6]) .ret))) (endK (cfX XD) RS50) noK (endK (cfX XD) RS50) s g ds := nr rfl
def noV : Value := .tuple ⟨[vi 0,vi 0,.bool false]⟩
def rnumR (l : Bs) (i0 s k : Nat) (n : Nat) : Value :=
 if k = s ∨ 2147483647 < n ∨ (l[s]? = some 48 ∧ (s + 1 < k ∨ i0 < s)) ∨ (l[k]?).any small = true then noV
 else .tuple ⟨[vi (if i0 < s then -(n : Int) else n),vi k,.bool true]⟩
theorem E50_eq' (l : Bs) (i0 s k n : Nat) (hs : i0 ≤ s) (hsk : s ≤ k) (hk : k ≤ l.length) (hn : n < 21474836480) (hl : l.length < 140737488355328) {e : Env} :
  E50 p F ((0,vs l) :: (1,vi i0) :: (7,vi k) :: (8,vi s) :: (9,vi n) :: e) h [] = some (rnumR l i0 s k n,h) := by
 rw [E50_eq]
 by_cases h1 : k = s
 ·have h1' : ((k : Int) == s) = true := by simp [h1]
  subst h1
  simp [r50_11,r50_12,RS50,rnumR,noV]
 have h1' : ((k : Int) == s) = false := by simp;omega
 by_cases h2 : 2147483647 < n
 ·have h2' : (2147483647 : Int) < n := by omega
  simp [r50_11,r50_12,RS50,h1',h2',rnumR,noV,h1,h2]
 have h2' : ¬ (2147483647 : Int) < n := by omega
 obtain ⟨c,hc⟩ : ∃ c,l[s]? = some c := ⟨_,List.getElem?_eq_getElem (by omega)⟩
 have g1 : atS (ofB l) (s : Int) h = some (.int .u8 c.toNat,h) := atS_ofB hc
 have w1 : IntKind.i64.wrap ((s : Int) + 1) = (s : Int) + 1 := wrap_in (by omega) (by omega)
 by_cases h3 : c = 48 ∧ (s + 1 < k ∨ i0 < s)
 ·obtain ⟨rfl,h3⟩ := h3
  by_cases h4 : s + 1 < k
  ·have h4' : (s : Int) + 1 < k := by omega
   simp [r50_11,r50_12,RS50,h1',h2',g1,w1,h4',rnumR,noV,h1,h2,hc,h4]
  ·have h4' : ¬ (s : Int) + 1 < k := by omega
   have h5 : i0 < s := by omega
   have h5' : (i0 : Int) < s := by omega
   simp [r50_11,r50_12,RS50,h1',h2',g1,w1,h4',h5',rnumR,noV,h1,h2,hc,h4,h5]
 have h3' : ¬ (l[s]? = some 48 ∧ (s + 1 < k ∨ i0 < s)) := by rw [hc];simpa using h3
 have wn : IntKind.i64.wrap (-(n : Int)) = -(n : Int) := wrap_in (by omega) (by omega)
 by_cases hk2 : k < l.length
 ·obtain ⟨d,hd⟩ : ∃ d,l[k]? = some d := ⟨_,List.getElem?_eq_getElem hk2⟩
  have hk2' : (k : Int) < l.length := by omega
  have g2 : atS (ofB l) (k : Int) h = some (.int .u8 d.toNat,h) := atS_ofB hd
  have e2 := rsmall_eq (p := p) (F := F) (h := h) d
  by_cases hc48 : c = 48
  ·subst hc48
   have h4 : ¬ s + 1 < k := fun q => h3 ⟨rfl,.inl q⟩
   have h5 : ¬ i0 < s := fun q => h3 ⟨rfl,.inr q⟩
   have h4' : ¬ (s : Int) + 1 < k := by omega
   have h5' : ¬ (i0 : Int) < s := by omega
   cases hsm : small d with
   | true =>
    rw [hsm] at e2
    simp [r50_11,r50_12,RS50,h1',h2',g1,w1,h4',h5',hk2',g2,e2,rnumR,noV,h1,h2,hd,hsm]
   | false =>
    rw [hsm] at e2
    simp [r50_11,r50_13,r50_15,RS50,h1',h2',g1,w1,h4',h5',hk2',g2,e2,rnumR,noV,h1,h2,hc,hd,hsm,h4,h5]
  ·cases hsm : small d with
   | true =>
    rw [hsm] at e2
    simp [r50_11,r50_12,RS50,h1',h2',g1,w1,hc48,hk2',g2,e2,rnumR,noV,h1,h2,hd,hsm]
   | false =>
    rw [hsm] at e2
    by_cases h5 : i0 < s
    ·have h5' : (i0 : Int) < s := by omega
     simp [r50_11,r50_13,r50_14,r50_15,RS50,h1',h2',g1,w1,hc48,hk2',g2,e2,rnumR,noV,h1,h2,hc,hd,hsm,h5,h5',wn]
    ·have h5' : ¬ (i0 : Int) < s := by omega
     simp [r50_11,r50_13,r50_15,RS50,h1',h2',g1,w1,hc48,hk2',g2,e2,rnumR,noV,h1,h2,hc,hd,hsm,h5,h5',wn]
 ·have hd : l[k]? = none := List.getElem?_eq_none_iff.2 (by omega)
  have hk2' : ¬ (k : Int) < l.length := by omega
  by_cases hc48 : c = 48
  ·subst hc48
   have h4 : ¬ s + 1 < k := fun q => h3 ⟨rfl,.inl q⟩
   have h5 : ¬ i0 < s := fun q => h3 ⟨rfl,.inr q⟩
   have h4' : ¬ (s : Int) + 1 < k := by omega
   have h5' : ¬ (i0 : Int) < s := by omega
   simp [r50_11,r50_13,r50_15,RS50,h1',h2',g1,w1,h4',h5',hk2',rnumR,noV,h1,h2,hc,hd,h4,h5]
  ·by_cases h5 : i0 < s
   ·have h5' : (i0 : Int) < s := by omega
    simp [r50_11,r50_13,r50_14,r50_15,RS50,h1',h2',g1,w1,hc48,hk2',rnumR,noV,h1,h2,hc,hd,h5,h5',wn]
   ·have h5' : ¬ (i0 : Int) < s := by omega
    simp [r50_11,r50_13,r50_15,RS50,h1',h2',g1,w1,hc48,hk2',rnumR,noV,h1,h2,hc,hd,h5,h5',wn]
def L50 (p : Bool) (F : Nat) (fuel : Nat) : K := loopK (F + 1) (cxOf (cf p (F + 1)) (cfX XD) RS50) [0,1,7,8,9] l50_10 (putK 0 (E50 p F) noK) (endK (cfX XD) RS50) fuel
theorem L50_succ {n : Nat} {s : Env} {g : H} {ds : Ds} : L50 p F (n + 1) s g ds = evC (F + 1) (cxOf (cf p (F + 1)) (cfX XD) RS50) l50_10 (keepK [0,1,7,8,9] (L50 p F n)) (putK 0 (E50 p F) noK) (endK (cfX XD) RS50) s g ds := loopK_succ
theorem L50_eq (l : Bs) (i0 s : Nat) (hs : i0 ≤ s) (hl : l.length < 140737488355328) (D : Bs) (hD : (l.drop s).takeWhile digit = D) :
  ∀ (m k : Nat) (E : Bs),m = l.length - k → s ≤ k → k ≤ l.length → E.length = k - s → D = E ++ (l.drop k).takeWhile digit → ∀ fuel,m < fuel →
   L50 p F fuel [(0,vs l),(1,vi i0),(7,vi k),(8,vi s),(9,vi (capN E))] h [] = some (rnumR l i0 s (s + D.length) (capN D),h) := by
 have hdig : ∀ c ∈ D,digit c = true := by rw [← hD];exact takeWhile_digit _
 intro m
 induction m with
 | zero =>
  intro k E hm hsk hk hE hDE fuel hfu
  obtain ⟨fuel,rfl⟩ : ∃ f',fuel = f' + 1 := ⟨fuel - 1,by omega⟩
  have e : k = l.length := by omega
  subst e
  rw [List.drop_eq_nil_iff.2 (Nat.le_refl _)] at hDE
  simp at hDE
  subst hDE
  rw [L50_succ]
  simp [l50_10,r50_6]
  rw [show s + D.length = l.length by omega]
  exact E50_eq' l i0 s l.length (capN D) hs hsk (Nat.le_refl _) (cap_lt D hdig) hl
 | succ m ih =>
  intro k E hm hsk hk hE hDE fuel hfu
  obtain ⟨fuel,rfl⟩ : ∃ f',fuel = f' + 1 := ⟨fuel - 1,by omega⟩
  have hk2 : k < l.length := by omega
  obtain ⟨d,hd⟩ : ∃ d,l[k]? = some d := ⟨_,List.getElem?_eq_getElem hk2⟩
  have hk2' : (k : Int) < l.length := by omega
  have g2 : atS (ofB l) (k : Int) h = some (.int .u8 d.toNat,h) := atS_ofB hd
  have e2 := rdigit_eq (p := p) (F := F) (h := h) d
  rw [L50_succ]
  cases hdd : digit d with
  | true =>
   rw [hdd] at e2
   have hdrop := drop_cons hd
   rw [hdrop,List.takeWhile_cons,hdd] at hDE
   simp only [if_true] at hDE
   have hEd : ∀ c ∈ E,digit c = true := fun c hc => hdig c (by rw [hDE];simp [hc])
   have hcl := cap_lt E hEd
   have w0 : IntKind.i64.wrap ((k : Int) + 1) = ((k + 1 : Nat) : Int) := by rw [wrap_in (by omega) (by omega)];omega
   have hc := hdd
   unfold digit at hc
   simp only [Bool.and_eq_true,decide_eq_true_eq,UInt8.le_iff_toNat_le] at hc
   have h48 : (48 : UInt8).toNat = 48 := rfl
   have h57 : (57 : UInt8).toNat = 57 := rfl
   have main := ih (k + 1) (E ++ [d]) (by omega) (by omega) (by omega) (by simp;omega) (by rw [hDE];simp) fuel (by omega)
   rw [cap_snoc] at main
   by_cases hcap : capN E ≤ 2147483647
   ·have hcap' : (capN E : Int) ≤ 2147483647 := by omega
    have w1 : IntKind.i64.wrap (10 * (capN E : Int)) = 10 * (capN E : Int) := wrap_in (by omega) (by omega)
    have w2 : IntKind.i64.wrap (d.toNat : Int) = (d.toNat : Int) := wrap_in (by omega) (by omega)
    have w3 : IntKind.i64.wrap (10 * (capN E : Int) + d.toNat) = 10 * (capN E : Int) + d.toNat := wrap_in (by omega) (by omega)
    have w4 : IntKind.i64.wrap (10 * (capN E : Int) + d.toNat - 48) = ((10 * capN E + (d.toNat - 48) : Nat) : Int) := by rw [wrap_in (by omega) (by omega)];omega
    rw [if_pos hcap] at main
    simp [l50_10,r50_6,hk2',g2,e2,r50_7,hcap',r50_8,r50_9,w0,w1,w2,w3,w4]
    push_cast at main
    exact main
   ·have hcap' : ¬ (capN E : Int) ≤ 2147483647 := by omega
    rw [if_neg hcap] at main
    simp [l50_10,r50_6,hk2',g2,e2,r50_7,hcap',r50_9,w0]
    push_cast at main
    exact main
  | false =>
   rw [hdd] at e2
   have hdrop := drop_cons hd
   rw [hdrop,List.takeWhile_cons,hdd] at hDE
   simp at hDE
   subst hDE
   simp [l50_10,r50_6,hk2',g2,e2]
   rw [show s + D.length = k by omega]
   exact E50_eq' l i0 s k (capN D) hs hsk hk (cap_lt D hdig) hl
def rnumV (l : Bs) : Option (Int × Bs) → Value
 | some (n,r) => .tuple ⟨[vi n,vi (l.length - r.length),.bool true]⟩
 | none => noV
theorem head_drop (l : Bs) (i : Nat) : (l.drop i).head? = l[i]? := by
 rw [List.head?_drop]
theorem drop_takeWhile : ∀ (l : Bs),l.drop (l.takeWhile digit).length = l.dropWhile digit
 | [] => rfl
 | c :: l => by
  rw [List.takeWhile_cons,List.dropWhile_cons]
  cases digit c with
  | true => simp [drop_takeWhile l]
  | false => simp
theorem rnumR_is (l : Bs) (i0 s : Nat) (hs : i0 ≤ s) (D : Bs) (hsl : s ≤ l.length) (hD : (l.drop s).takeWhile digit = D) : rnumR l i0 s (s + D.length) (capN D) = rnumV l (numeral1 (decide (i0 < s)) (l.drop s)) := by
 rw [numeral1_ref,hD]
 have hR : (l.drop s).dropWhile digit = l.drop (s + D.length) := by
  rw [← drop_takeWhile,hD,List.drop_drop]
 have hle : s + D.length ≤ l.length := by
  have : D.length ≤ (l.drop s).length := by rw [← hD];exact (List.takeWhile_prefix _).length_le
  rw [List.length_drop] at this
  omega
 rw [hR,head_drop]
 have hhead : D.length ≠ 0 → D.head? = l[s]? := by
  intro hne
  rw [← head_drop,← hD]
  rw [← hD] at hne
  cases hls : l.drop s with
  | nil => rw [hls] at hne;simp at hne
  | cons c r =>
   rw [hls,List.takeWhile_cons] at hne
   rw [List.takeWhile_cons]
   cases hc : digit c with
   | true => simp
   | false => rw [hc] at hne;simp at hne
 have hlen : (l.length : Int) - ((l.drop (s + D.length)).length : Int) = ((s + D.length : Nat) : Int) := by rw [List.length_drop];omega
 unfold rnumR
 by_cases h0 : D.length = 0
 ·simp [h0,rnumV]
 ·have h0' : ¬ (s + D.length = s) := by omega
  have e1 : (D.length == 0) = false := by simpa using h0
  rw [hhead h0,e1]
  by_cases h2 : 2147483647 < capN D
  ·simp [h2,rnumV]
  ·by_cases h3 : l[s]? = some 48 ∧ (s + 1 < s + D.length ∨ i0 < s)
   ·have e3 : (l[s]? == some 48 && (decide (D.length > 1) || decide (i0 < s))) = true := by
     rw [h3.1]
     rcases h3.2 with q | q
     ·have : D.length > 1 := by omega
      simp [this]
     ·simp [q]
    rw [if_pos (.inr (.inr (.inl h3))),e3]
    simp [rnumV]
   ·have e3 : (l[s]? == some 48 && (decide (D.length > 1) || decide (i0 < s))) = false := by
     cases hq : (l[s]? == some 48) with
     | false => rfl
     | true =>
      have hq' := beq_iff_eq.1 hq
      have h4 : ¬ (s + 1 < s + D.length) := fun q => h3 ⟨hq',.inl q⟩
      have h5 : ¬ i0 < s := fun q => h3 ⟨hq',.inr q⟩
      have h6 : ¬ D.length > 1 := by omega
      simp [h5,h6]
    rw [e3]
    cases hsm : (l[s + D.length]?).any small with
    | true => simp [rnumV]
    | false =>
     have : ¬ (s + D.length = s ∨ 2147483647 < capN D ∨ (l[s]? = some 48 ∧ (s + 1 < s + D.length ∨ i0 < s)) ∨ false = true) := by
      rintro (q | q | q | q)
      ·exact h0' q
      ·exact h2 q
      ·exact h3 q
      ·cases q
     rw [if_neg this]
     simp only [h2,decide_false,Bool.or_false,Bool.false_eq_true,if_false,rnumV,hlen]
     by_cases h5 : i0 < s
     ·simp [h5]
     ·simp [h5]
theorem rnumber_eq (l : Bs) (i0 : Nat) (hi0 : i0 < l.length) (hF : l.length + 1 < F) (hl : l.length < 140737488355328) : cf p (F + 2) 50 [vs l,vi i0] h = some (rnumV l (numeral (l.drop i0)),h) := by
 rw [cf_step (a := a50) rfl rfl (by simp [a50])]
 obtain ⟨c,hc⟩ : ∃ c,l[i0]? = some c := ⟨_,List.getElem?_eq_getElem hi0⟩
 have g1 : atS (ofB l) (i0 : Int) h = some (.int .u8 c.toNat,h) := atS_ofB hc
 unfold numeral
 rw [head_drop,hc]
 by_cases h45 : c = 45
 ·subst h45
  have w0 : IntKind.i64.wrap ((i0 : Int) + 1) = ((i0 + 1 : Nat) : Int) := by rw [wrap_in (by omega) (by omega)];omega
  have main := L50_eq (p := p) (F := F) (h := h) l i0 (i0 + 1) (by omega) hl _ rfl _ (i0 + 1) [] rfl (Nat.le_refl _) (by omega) (by simp) (by simp) (F + 1) (by omega)
  rw [rnumR_is l i0 (i0 + 1) (by omega) _ (by omega) rfl] at main
  simp [a50,r50_0,r50_1,r50_2,r50_3,r50_4,r50_5,g1,w0]
  simp at main
  exact main
 ·have main := L50_eq (p := p) (F := F) (h := h) l i0 i0 (by omega) hl _ rfl _ i0 [] rfl (Nat.le_refl _) (by omega) (by simp) (by simp) (F + 1) (by omega)
  rw [rnumR_is l i0 i0 (by omega) _ (by omega) rfl] at main
  have e45 : (some c == some (45 : UInt8)) = false := by simpa using h45
  rw [e45]
  simp [a50,r50_0,r50_1,r50_2,r50_4,r50_5,g1,h45]
  simp at main
  exact main
end Go.Proofs.YtnoghchcboiojaaGreatDoor
end
section
set_option maxRecDepth 100000
namespace Go.Proofs.YtnoghchcboiojaaGreatDoor
open Go.Ev
open Go.Rn (Bs Tok small digit bare blank hex lex lex_blank lex_hash lex_semi lex_one)
variable {p : Bool} {F : Nat} {h : H}
def rkind : Tok → Int
 | .name _ => 110
 | .num _ => 35
 | .place _ => 47
 | .quoted _ => 34
 | .semi => 59
def rtokC (t : Tok) : List Value := [.int .u8 (rkind t),vs (textOf t),vi (numOf t)]
def RTokR (_ : H) (cs : List Value) (t : Tok) : Prop := cs = rtokC t
theorem small_loop (l : Bs) (i : Nat) (v : Value) (hl : l.length < 140737488355328) {cd : DCF} {rs : List ARes} {kn : K} {ke : Nat → K} {kr : K} {g : H} {ds : Ds} {F0 : Nat} :
  ∀ (m k : Nat),m = l.length - k → k ≤ l.length → ∀ fuel,m < fuel →
   loopK F0 (cxOf (cf p (F + 1)) cd rs) [0,4,5,7] l23_16 (putK 3 kn ke) kr fuel [(0,vs l),(4,v),(5,vi k),(7,vi i)] g ds = kn [(0,vs l),(4,v),(5,vi (k + ((l.drop k).takeWhile small).length : Nat)),(7,vi i),(60,.bool false)] g ds := by
 intro m
 induction m with
 | zero =>
  intro k hm hk fuel hfu
  obtain ⟨fuel,rfl⟩ : ∃ f',fuel = f' + 1 := ⟨fuel - 1,by omega⟩
  have e : k = l.length := by omega
  subst e
  rw [loopK_succ,List.drop_eq_nil_iff.2 (Nat.le_refl _)]
  simp [l23_16,r23_14]
 | succ m ih =>
  intro k hm hk fuel hfu
  obtain ⟨fuel,rfl⟩ : ∃ f',fuel = f' + 1 := ⟨fuel - 1,by omega⟩
  have hk2 : k < l.length := by omega
  obtain ⟨d,hd⟩ : ∃ d,l[k]? = some d := ⟨_,List.getElem?_eq_getElem hk2⟩
  have hk2' : (k : Int) < l.length := by omega
  have g2 : atS (ofB l) (k : Int) g = some (.int .u8 d.toNat,g) := atS_ofB hd
  have e2 := rsmall_eq (p := p) (F := F) (h := g) d
  rw [loopK_succ,drop_cons hd,List.takeWhile_cons]
  cases hs : small d with
  | true =>
   rw [hs] at e2
   have w0 : IntKind.i64.wrap ((k : Int) + 1) = ((k + 1 : Nat) : Int) := by rw [wrap_in (by omega) (by omega)];omega
   have main := ih (k + 1) (by omega) (by omega) fuel (by omega)
   generalize hag : loopK F0 (cxOf (cf p (F + 1)) cd rs) [0,4,5,7] l23_16 (putK 3 kn ke) kr fuel = again at *
   simp [l23_16,r23_14,hk2',g2,e2,r23_15,w0]
   push_cast at main
   rw [main]
   rw [show ∀ n : Int,(k : Int) + 1 + n = k + (n + 1) from fun n => by omega]
  | false =>
   rw [hs] at e2
   simp [l23_16,r23_14,hk2',g2,e2]
theorem bare_loop (l : Bs) (i : Nat) (v : Value) (hl : l.length < 140737488355328) {cd : DCF} {rs : List ARes} {kn : K} {ke : Nat → K} {kr : K} {g : H} {ds : Ds} {F0 : Nat} :
  ∀ (m k : Nat),m = l.length - k → k ≤ l.length → ∀ fuel,m < fuel →
   loopK F0 (cxOf (cf p (F + 2)) cd rs) [0,4,5,7] l23_23 (putK 5 kn ke) kr fuel [(0,vs l),(4,v),(5,vi k),(7,vi i)] g ds = kn [(0,vs l),(4,v),(5,vi (k + ((l.drop k).takeWhile bare).length : Nat)),(7,vi i),(93,.bool false)] g ds := by
 intro m
 induction m with
 | zero =>
  intro k hm hk fuel hfu
  obtain ⟨fuel,rfl⟩ : ∃ f',fuel = f' + 1 := ⟨fuel - 1,by omega⟩
  have e : k = l.length := by omega
  subst e
  rw [loopK_succ,List.drop_eq_nil_iff.2 (Nat.le_refl _)]
  simp [l23_23,r23_21]
 | succ m ih =>
  intro k hm hk fuel hfu
  obtain ⟨fuel,rfl⟩ : ∃ f',fuel = f' + 1 := ⟨fuel - 1,by omega⟩
  have hk2 : k < l.length := by omega
  obtain ⟨d,hd⟩ : ∃ d,l[k]? = some d := ⟨_,List.getElem?_eq_getElem hk2⟩
  have hk2' : (k : Int) < l.length := by omega
  have g2 : atS (ofB l) (k : Int) g = some (.int .u8 d.toNat,g) := atS_ofB hd
  have e2 := rbare_eq (p := p) (F := F) (h := g) d
  rw [loopK_succ,drop_cons hd,List.takeWhile_cons]
  cases hs : bare d with
  | true =>
   rw [hs] at e2
   have w0 : IntKind.i64.wrap ((k : Int) + 1) = ((k + 1 : Nat) : Int) := by rw [wrap_in (by omega) (by omega)];omega
   have main := ih (k + 1) (by omega) (by omega) fuel (by omega)
   generalize hag : loopK F0 (cxOf (cf p (F + 2)) cd rs) [0,4,5,7] l23_23 (putK 5 kn ke) kr fuel = again at *
   simp [l23_23,r23_21,hk2',g2,e2,r23_22,w0]
   push_cast at main
   rw [main]
   rw [show ∀ n : Int,(k : Int) + 1 + n = k + (n + 1) from fun n => by omega]
  | false =>
   rw [hs] at e2
   simp [l23_23,r23_21,hk2',g2,e2]
end Go.Proofs.YtnoghchcboiojaaGreatDoor
end
section
set_option maxRecDepth 100000
namespace Go.Proofs.YtnoghchcboiojaaGreatDoor
open Go.Ev
open Go.Rn (Bs Tok small digit bare blank hex lex lex_blank lex_hash lex_semi lex_one)
variable {p : Bool} {F : Nat} {h : H}
def RWordsQ (l : Bs) (h : H) (v : Value) (h' : H) : Prop := Kept h h' [] ∧ match lex l with
 | some ts => ∃ tv,v = .tuple ⟨[tv,.bool true]⟩ ∧ Bld (fun b => h.size ≤ b) 3 RTokR h' tv ts ∧ ts.length ≤ l.length
 | none => v = .tuple ⟨[.slice none 0 0,.bool false]⟩
theorem dropWhile_drop (l : Bs) (i : Nat) (q : UInt8 → Bool) : (l.drop i).dropWhile q = l.drop (i + ((l.drop i).takeWhile q).length) := by
 rw [← List.drop_drop]
 conv => rhs;arg 2;rw [← List.takeWhile_append_dropWhile (p := q) (l := l.drop i)]
 rw [List.drop_left]
theorem takeWhile_cut (l : Bs) (i : Nat) (q : UInt8 → Bool) (hi : i ≤ l.length) (g : H) : cutS (ofB l) i (i + ((l.drop i).takeWhile q).length) g = some (vs ((l.drop i).takeWhile q),g) := by
 have hle : ((l.drop i).takeWhile q).length ≤ l.length - i := by rw [← List.length_drop];exact (List.takeWhile_prefix _).length_le
 rw [cutS_ofB (by omega) (by omega),Nat.add_sub_cancel_left]
 congr 4
 conv => lhs;arg 2;rw [← List.takeWhile_append_dropWhile (p := q) (l := l.drop i)]
 exact List.take_left
theorem rwords_spec (l : Bs) (hF : l.length + 3 < F) (hl : l.length < 4398046511104) : Ans (cf p (F + 5) 23 [vs l] h) fun v h' => RWordsQ l h v h' := by
 rw [cf_step (a := a23) rfl rfl (by simp [a23])]
 simp [a23,r23_0,r23_1,r23_2]
 refine loop_rule (fun m s g => ∃ (i : Nat) (v : Value) (acc : List Tok),i ≤ l.length ∧ m = l.length - i ∧ Kept h g [] ∧ s = [(0,vs l),(4,v),(5,vi i)] ∧ Bld (fun b => h.size ≤ b) 3 RTokR g v acc ∧ acc.length ≤ i ∧
   lex l = (lex (l.drop i)).map fun q => acc ++ q)
  ?_ (F + 4) (l.length - 0) _ _ (by omega) ⟨0,_,[],by omega,rfl,Kept.refl _ _,rfl,Bld.nil _ _ _ _,by simp,by simp⟩
 rintro m s g again ⟨i,v,acc,hi,rfl,hk,rfl,hB,hal,hq⟩ hag
 have h1w := hB.sl.one
 unfold oneCell at h1w
 by_cases hlt : i < l.length
 ·obtain ⟨c,hc⟩ : ∃ c,l[i]? = some c := ⟨_,List.getElem?_eq_getElem hlt⟩
  have hd := drop_cons hc
  have hlt' : (i : Int) < l.length := by omega
  have g1 : ∀ g,atS (ofB l) (i : Int) g = some (.int .u8 c.toNat,g) := fun g => atS_ofB hc
  have fin0 : ∀ (v' : Value) (g' : H) (j : Nat) (a' : List Tok) (z : Int),i < j → j ≤ l.length → z = j → Kept h g' [] → Bld (fun b => h.size ≤ b) 3 RTokR g' v' a' → a'.length ≤ j → lex l = (lex (l.drop j)).map (fun q => a' ++ q) →
    Ans (again [(0,vs l),(4,v'),(5,vi z)] g' []) fun v h' => RWordsQ l h v h' := by
   intro v' g' j a' z j1 j2 jz j3 j4 j5 j6
   subst jz
   exact hag (l.length - j) _ _ (by omega) ⟨j,v',a',j2,rfl,j3,rfl,j4,j5,j6⟩
  rw [hd] at hq
  by_cases k1 : Go.Rn.blank c = true
  ·rw [lex_blank k1] at hq
   have hb : c = 32 ∨ c = 9 ∨ c = 13 := by simpa [Go.Rn.blank,or_assoc] using k1
   rcases hb with rfl | rfl | rfl
   ·simp (disch := first|omega|(simp only [zS];first|done|omega)) [l23_38,r23_3,r23_4,r23_5,r23_6,r23_7,hlt',g1,wrap_id]
    exact fin0 v g (i + 1) acc _ (by omega) (by omega) (by omega) hk hB (by omega) hq
   ·simp (disch := first|omega|(simp only [zS];first|done|omega)) [l23_38,r23_3,r23_4,r23_5,r23_6,r23_7,hlt',g1,wrap_id]
    exact fin0 v g (i + 1) acc _ (by omega) (by omega) (by omega) hk hB (by omega) hq
   ·simp (disch := first|omega|(simp only [zS];first|done|omega)) [l23_38,r23_3,r23_4,r23_5,r23_6,r23_7,hlt',g1,wrap_id]
    exact fin0 v g (i + 1) acc _ (by omega) (by omega) (by omega) hk hB (by omega) hq
  have k1' : Go.Rn.blank c = false := by simpa using k1
  have hb : ¬ c = 32 ∧ ¬ c = 9 ∧ ¬ c = 13 := by simpa [Go.Rn.blank,and_assoc] using k1'
  obtain ⟨b1,b2,b3⟩ := hb
  by_cases k2 : c = 35
  ·subst k2
   rw [lex_hash] at hq
   simp (disch := first|omega|(simp only [zS];first|done|omega)) [l23_38,r23_3,r23_4,r23_5,r23_6,r23_8,r23_9,hlt',g1,h1w]
   refine Ans.of ⟨hk,?_⟩
   rw [hq]
   simp only [Option.map_some,List.append_nil]
   exact ⟨v,rfl,hB,by omega⟩
  have put : ∀ (t : Tok) (g' : H),Kept g g' [] → ∃ v' g'',appendTo (Ev.newRow g' (rtokC t) 3 []) 3 32 v 1 (rtokC t) = some (v',g'') ∧ ∀ (j : Nat) (z : Int),i < j → j ≤ l.length → z = j → lex (l.drop i) = (lex (l.drop j)).map (fun q => t :: q) →
    Ans (again [(0,vs l),(4,v'),(5,vi z)] g'' []) fun v h' => RWordsQ l h v h' := by
   intro t g' kg
   have hB' := hB.kept kg (by simp) fun cs x _ q => q
   have hk' := hk.trans kg
   obtain ⟨v',g'',a1,a2,a3,a4⟩ := bld_put1 hB' (bytes := 32) (rtokC t) (x := t) rfl (by omega) (by have := hk'.1;omega) (fun _ _ _ _ _ _ q => q) (fun _ _ => rfl)
   refine ⟨v',g'',a1,fun j z j1 j2 j3 j4 => fin0 v' g'' j (acc ++ [t]) z j1 j2 j3 (kept_of hk' a3.1 fun b hb => a4 b (by have := hk'.1;omega) (by omega)) a2 (by simp;omega) ?_⟩
   rw [hq,← hd,j4];simp [Option.map_map,Function.comp_def]
  by_cases k3 : c = 59
  ·subst k3
   obtain ⟨v',g',a1,fin⟩ := put .semi g (Kept.refl _ _)
   simp only [rtokC,rkind,textOf,numOf] at a1
   simp (disch := first|omega|(simp only [zS];first|done|omega)) [l23_38,r23_3,r23_4,r23_5,r23_6,r23_8,r23_10,r23_11,r23_12,hlt',g1,a1,srcOf,isText,lit_nil,wrap_id]
   exact fin (i + 1) _ (by omega) (by omega) (by omega) (by rw [hd,lex_semi])
  have hlex : lex (l.drop i) = match Go.Rn.one (l.drop i) with
    | some (t,r) => (lex r).map fun q => t :: q
    | none => none := by rw [hd];exact lex_one k1' k2 k3
  have hone := one_eq (l := l.drop i) (c := c) (by rw [hd];rfl)
  have hno' : ∀ g',Kept g g' [] → lex (l.drop i) = none → RWordsQ l h (.tuple ⟨[.slice none 0 0,.bool false]⟩) g' := by
   intro g' kg e
   refine ⟨hk.trans kg,?_⟩
   rw [hq,← hd,e];rfl
  have hno := hno' g (Kept.refl _ _)
  have hrest : ∀ t r,Go.Rn.one (l.drop i) = some (t,r) → lex (l.drop i) = (lex (l.drop (l.length - r.length))).map (fun q => t :: q) ∧ i < l.length - r.length ∧ (l.length : Int) - r.length = ((l.length - r.length : Nat) : Int) := by
   intro t r ho
   have hlen := Go.Rn.one_len ho
   have hsuf := (Go.Rn.one_suf ho).drop
   rw [List.drop_drop] at hsuf
   simp only [List.length_drop] at hlen hsuf
   rw [show i + (l.length - i - r.length) = l.length - r.length by omega] at hsuf
   rw [ho] at hlex
   refine ⟨?_,by omega,by omega⟩
   rw [hlex,hsuf]
  have e1 := fun g => rsmall_eq (p := p) (F := F + 3) (h := g) c
  have e2 := fun g => rdigit_eq (p := p) (F := F + 3) (h := g) c
  cases ks : small c with
  | true =>
   rw [ks] at e1 hone
   simp only [if_true] at hone
   have lp := fun v kn ke kr g ds F0 => small_loop (p := p) (F := F + 3) l i v (by omega) (cd := cfX XD) (rs := [.tmp 2,.tmp 3]) (kn := kn) (ke := ke) (kr := kr) (g := g) (ds := ds) (F0 := F0) _ i rfl (by omega) (F + 4) (by omega)
   rw [dropWhile_drop] at hone
   have hcut := takeWhile_cut l i small (by omega) g
   have hle : ((l.drop i).takeWhile small).length ≤ l.length - i := by rw [← List.length_drop];exact (List.takeWhile_prefix _).length_le
   have hpos : 1 ≤ ((l.drop i).takeWhile small).length := by rw [hd,List.takeWhile_cons,ks];simp
   generalize (l.drop i).takeWhile small = T at *
   simp (disch := first|omega|(simp only [zS];first|done|omega)) [l23_38,r23_3,r23_4,r23_5,r23_6,r23_8,r23_10,r23_13,hlt',g1,b1,b2,b3,k2,k3,e1,lp]
   have z1 : (0 : Int) ≤ (i : Int) + T.length := by omega
   have z2 : ((i : Int) + T.length).toNat = i + T.length := by omega
   rw [head_drop] at hone
   have yes : lex (l.drop i) = (lex (l.drop (i + T.length))).map (fun q => Tok.name T :: q) → ∀ x,x = false → True := fun _ _ _ => trivial
   by_cases hlt2 : i + T.length < l.length
   ·obtain ⟨d,hdd⟩ : ∃ d,l[i + T.length]? = some d := ⟨_,List.getElem?_eq_getElem hlt2⟩
    have hlt2' : (i : Int) + T.length < l.length := by omega
    have g2 : atS (ofB l) ((i : Int) + T.length) g = some (.int .u8 d.toNat,g) := atS_off hdd
    have e3 := rdigit_eq (p := p) (F := F + 3) (h := g) d
    rw [hdd] at hone
    cases hdig : digit d with
    | true =>
     rw [hdig] at e3
     simp [hdig] at hone
     rw [hone] at hlex
     simp (disch := first|omega|(simp only [zS];first|done|omega)) [r23_17,hlt2',g2,e3,r23_18]
     exact Ans.of (hno hlex)
    | false =>
     rw [hdig] at e3
     simp [hdig] at hone
     rw [hone] at hlex
     obtain ⟨v',g',a1,fin⟩ := put (.name T) g (Kept.refl _ _)
     simp only [rtokC,rkind,textOf,numOf] at a1
     simp (disch := first|omega|(simp only [zS];first|done|omega)) [r23_17,hlt2',g2,e3,r23_19,pcS_eq,z1,z2,hcut,a1,srcOf,isText,lit_nil]
     exact fin (i + T.length) _ (by omega) (by omega) (by omega) hlex
   ·have hlt2' : ¬ (i : Int) + T.length < l.length := by omega
    have hdd : l[i + T.length]? = none := List.getElem?_eq_none_iff.2 (by omega)
    rw [hdd] at hone
    simp at hone
    rw [hone] at hlex
    obtain ⟨v',g',a1,fin⟩ := put (.name T) g (Kept.refl _ _)
    simp only [rtokC,rkind,textOf,numOf] at a1
    simp (disch := first|omega|(simp only [zS];first|done|omega)) [r23_17,hlt2',r23_19,pcS_eq,z1,z2,hcut,a1,srcOf,isText,lit_nil]
    exact fin (i + T.length) _ (by omega) (by omega) (by omega) hlex
  | false =>
   rw [ks] at e1 hone
   simp only [Bool.false_eq_true,if_false] at hone
   by_cases k47 : c = 47
   ·have lp := fun v kn ke kr g ds F0 => bare_loop (p := p) (F := F + 2) l i v (by omega) (cd := cfX XD) (rs := [.tmp 2,.tmp 3]) (kn := kn) (ke := ke) (kr := kr) (g := g) (ds := ds) (F0 := F0) _ i rfl (by omega) (F + 4) (by omega)
    have n1 : (digit c || decide (c = 45)) = false := by subst k47;decide
    rw [n1,dropWhile_drop] at hone
    simp only [Bool.false_eq_true,if_false,if_pos k47] at hone
    have hcut := takeWhile_cut l i bare (by omega) g
    have hle : ((l.drop i).takeWhile bare).length ≤ l.length - i := by rw [← List.length_drop];exact (List.takeWhile_prefix _).length_le
    have hpos : 1 ≤ ((l.drop i).takeWhile bare).length := by rw [hd,List.takeWhile_cons,show bare c = true by subst k47;decide];simp
    generalize (l.drop i).takeWhile bare = T at *
    rw [hone] at hlex
    have z1 : (0 : Int) ≤ (i : Int) + T.length := by omega
    have z2 : ((i : Int) + T.length).toNat = i + T.length := by omega
    obtain ⟨v',g',a1,fin⟩ := put (.place T) g (Kept.refl _ _)
    simp only [rtokC,rkind,textOf,numOf] at a1
    have k47' := eq_true k47
    simp (disch := first|omega|(simp only [zS];first|done|omega)) [l23_38,r23_3,r23_4,r23_5,r23_6,r23_8,r23_10,r23_13,r23_20,hlt',g1,b1,b2,b3,k2,k3,e1,k47',lp,r23_24,pcS_eq,z1,z2,hcut,a1,srcOf,isText,lit_nil]
    exact fin (i + T.length) _ (by omega) (by omega) (by omega) hlex
   ·by_cases k34 : c = 34
    ·have n1 : (digit c || decide (c = 45)) = false := by subst k34;decide
     rw [n1] at hone
     simp only [Bool.false_eq_true,if_false,if_neg k47,if_pos k34,List.tail_drop] at hone
     have k34' := eq_true k34
     have e3 := rquoted_spec (p := p) (F := F) (h := g) l i hlt (by omega) (by omega)
     simp (disch := first|omega|(simp only [zS];first|done|omega)) [l23_38,r23_3,r23_4,r23_5,r23_6,r23_8,r23_10,r23_13,r23_20,r23_25,r23_26,hlt',g1,b1,b2,b3,k2,k3,e1,k47,k34']
     refine Ans.nextC e3 ?_
     rintro w g' ⟨kg,rfl⟩
     cases hqq : Go.Rn.quo (l.drop (i + 1)) with
     | none =>
      rw [hqq] at hone
      simp only [Option.map_none] at hone
      rw [hone] at hlex
      simp (disch := first|omega|(simp only [zS];first|done|omega)) [rquoV,List.getElem?_cons_zero,List.getElem?_cons_succ,r23_27,aUn,r23_28]
      exact Ans.of (hno' g' kg hlex)
     | some q =>
      obtain ⟨sq,r⟩ := q
      rw [hqq] at hone
      simp only [Option.map_some] at hone
      obtain ⟨r1,r2,r3⟩ := hrest _ _ hone
      obtain ⟨v',g'',a1,fin⟩ := put (.quoted sq) g' kg
      simp only [rtokC,rkind,textOf,numOf] at a1
      simp (disch := first|omega|(simp only [zS];first|done|omega)) [rquoV,List.getElem?_cons_zero,List.getElem?_cons_succ,r23_27,aUn,r23_29,r23_30,a1,srcOf,isText,lit_nil]
      exact fin (l.length - r.length) _ r2 (by omega) r3 r1
    ·rw [if_neg k47,if_neg k34] at hone
     cases kd : (digit c || decide (c = 45)) with
     | true =>
      rw [kd] at hone
      simp only [if_true] at hone
      have e3 := rnumber_eq (p := p) (F := F + 2) (h := g) l i hlt (by omega) (by omega)
      cases hnn : Go.Rn.numeral (l.drop i) with
      | none =>
       rw [hnn] at hone e3
       simp only [Option.map_none] at hone
       rw [hone] at hlex
       simp only [rnumV,noV] at e3
       cases hdc : digit c with
       | true =>
        rw [hdc] at e2
        simp (disch := first|omega|(simp only [zS];first|done|omega)) [l23_38,r23_3,r23_4,r23_5,r23_6,r23_8,r23_10,r23_13,r23_20,r23_25,r23_31,hlt',g1,b1,b2,b3,k2,k3,e1,k47,k34,e2,r23_32,e3,List.getElem?_cons_zero,List.getElem?_cons_succ,r23_33,aUn,r23_34]
        exact Ans.of (hno hlex)
       | false =>
        have d2 : (c = 45) = True := eq_true (by rw [hdc] at kd;simpa using kd)
        rw [hdc] at e2
        simp (disch := first|omega|(simp only [zS];first|done|omega)) [l23_38,r23_3,r23_4,r23_5,r23_6,r23_8,r23_10,r23_13,r23_20,r23_25,r23_31,hlt',g1,b1,b2,b3,k2,k3,e1,k47,k34,e2,d2,r23_32,e3,List.getElem?_cons_zero,List.getElem?_cons_succ,r23_33,aUn,r23_34]
        exact Ans.of (hno hlex)
      | some q =>
       obtain ⟨zn,r⟩ := q
       rw [hnn] at hone e3
       simp only [Option.map_some] at hone
       obtain ⟨r1,r2,r3⟩ := hrest _ _ hone
       obtain ⟨v',g'',a1,fin⟩ := put (.num zn) g (Kept.refl _ _)
       simp only [rtokC,rkind,textOf,numOf] at a1
       simp only [rnumV] at e3
       cases hdc : digit c with
       | true =>
        rw [hdc] at e2
        simp (disch := first|omega|(simp only [zS];first|done|omega)) [l23_38,r23_3,r23_4,r23_5,r23_6,r23_8,r23_10,r23_13,r23_20,r23_25,r23_31,hlt',g1,b1,b2,b3,k2,k3,e1,k47,k34,e2,r23_32,e3,List.getElem?_cons_zero,List.getElem?_cons_succ,r23_33,aUn,r23_35,r23_36,a1,srcOf,isText,lit_nil]
        exact fin (l.length - r.length) _ r2 (by omega) r3 r1
       | false =>
        have d2 : (c = 45) = True := eq_true (by rw [hdc] at kd;simpa using kd)
        rw [hdc] at e2
        simp (disch := first|omega|(simp only [zS];first|done|omega)) [l23_38,r23_3,r23_4,r23_5,r23_6,r23_8,r23_10,r23_13,r23_20,r23_25,r23_31,hlt',g1,b1,b2,b3,k2,k3,e1,k47,k34,e2,d2,r23_32,e3,List.getElem?_cons_zero,List.getElem?_cons_succ,r23_33,aUn,r23_35,r23_36,a1,srcOf,isText,lit_nil]
        exact fin (l.length - r.length) _ r2 (by omega) r3 r1
     | false =>
      rw [kd] at hone
      simp only [Bool.false_eq_true,if_false] at hone
      rw [hone] at hlex
      have d1 : digit c = false := by cases hdc : digit c <;> simp [hdc] at kd ⊢
      have d2 : ¬ c = 45 := by rw [d1] at kd;simpa using kd
      rw [d1] at e2
      simp (disch := first|omega|(simp only [zS];first|done|omega)) [l23_38,r23_3,r23_4,r23_5,r23_6,r23_8,r23_10,r23_13,r23_20,r23_25,r23_31,r23_37,hlt',g1,b1,b2,b3,k2,k3,e1,k47,k34,e2,d2]
      exact Ans.of (hno hlex)
 ·have : i = l.length := by omega
  subst this
  simp (disch := first|omega|(simp only [zS];first|done|omega)) [l23_38,r23_3,r23_39,h1w]
  refine Ans.of ⟨hk,?_⟩
  rw [hq,List.drop_eq_nil_iff.2 (Nat.le_refl _)]
  simp only [Go.Rn.lex,Go.Rn.lexN,Option.map_some,List.append_nil,List.length_nil]
  exact ⟨v,rfl,hB,by omega⟩
end Go.Proofs.YtnoghchcboiojaaGreatDoor
end
section
set_option maxRecDepth 100000
namespace Go.Proofs.YtnoghchcboiojaaGreatDoor
open Go.Ev
open Go.Rn (Bs Tok)
variable {p : Bool} {F : Nat} {h : H}
def RW (h : H) (v : Value) (ws : List Tok) : Prop := SlR (fun b => b < h.size) 3 RTokR h v ws ∧ ws.length < 4398046511104
theorem RW.kept {h' : H} {v : Value} {ws : List Tok} (a : RW h v ws) (k : Kept h h' []) : RW h' v ws :=
 ⟨(a.1.kc k.c (by simp) fun _ _ _ q => q).imp (fun b hb q => hb) (fun _ _ _ q => q) fun _ _ _ e => e,a.2⟩
theorem RW.word {v : Value} {ws : List Tok} (a : RW h v ws) {j : Nat} {t : Tok} (ht : ws[j]? = some t) :
  ∃ b o c cs es lv an,v = .slice (some ⟨b,o,none⟩) ws.length c ∧ hget h b = some (.cells cs es lv an) ∧ o + j * 3 + 3 ≤ cs.length ∧
   (cs.drop (o + j * 3)).take 1 = [.int .u8 (rkind t)] ∧ (cs.drop (o + j * 3 + 1)).take 1 = [vs (textOf t)] ∧ (cs.drop (o + j * 3 + 2)).take 1 = [vi (numOf t)] := by
 obtain ⟨b,o,c,cs,es,lv,an,e,hk,hg,hl,hr⟩ := a.1.at' ht
 have := take3 (show (cs.drop (o + j * 3)).take 3 = [.int .u8 (rkind t),vs (textOf t),vi (numOf t)] from hr)
 exact ⟨b,o,c,cs,es,lv,an,e,hg,hl,this.1,this.2.1,this.2.2⟩
def isN (ws : List Tok) (j : Nat) (w : Bs) : Bool := decide (ws[j]? = some (.name w))
theorem isName_eq {v : Value} {ws : List Tok} (a : RW h v ws) (j : Nat) (hj : j < 8796093022208) (w : Bs) : cf p (F + 1) 51 [v,vi j,vs w] h = some (.bool (isN ws j w),h) := by
 rw [cf_step (a := a51) rfl rfl (by simp [a51])]
 have hlen := a.1.len
 cases ht : ws[j]? with
 | none =>
  have hge : ¬ ((j : Int) < ws.length) := by have := List.getElem?_eq_none_iff.1 ht;omega
  have e : isN ws j w = false := by simp [isN,ht]
  rw [e]
  simp [a51,r51_0,r51_1,hlen,hge]
 | some t =>
  have hlt := (List.getElem?_eq_some_iff.1 ht).1
  have hge : (j : Int) < ws.length := by omega
  obtain ⟨b,o,c,cs,es,lv,an,rfl,hg,hl,t0,t1,t2⟩ := a.word ht
  have hl1 : o + j * 3 + 1 ≤ cs.length := by omega
  have hl2 : o + j * 3 + 1 + 1 ≤ cs.length := by omega
  by_cases hk : rkind t = 110
  ·obtain ⟨s,rfl⟩ : ∃ s,t = .name s := by cases t <;> simp [rkind] at hk ⊢
   have e : isN ws j w = decide (s = w) := by simp [isN,ht]
   rw [e]
   simp [a51,r51_0,r51_1,hge,hg,hl1,hl2,t0,t1,hk,textOf,ofB_beq]
  ·have e : isN ws j w = false := by
    rw [isN,ht]
    simp only [Option.some.injEq,decide_eq_false_iff_not]
    rintro rfl
    exact hk rfl
   have hkb : (rkind t == 110) = false := by simpa using hk
   rw [e]
   simp [a51,r51_0,r51_1,hge,hg,hl1,t0,hkb]
def rtextV (ws : List Tok) (j : Nat) (bare : Bool) : Option Bs := match ws[j]? with
 | some (.quoted s) => if s.length ≤ 256 then some s else none
 | some (.place s) => if bare = true ∧ s.length ≤ 256 then some s else none
 | _ => none
def optV : Option Bs → Value
 | some s => .tuple ⟨[vs s,.bool true]⟩
 | none => .tuple ⟨[vs [],.bool false]⟩
theorem rtext_eq {v : Value} {ws : List Tok} (a : RW h v ws) (j : Nat) (hj : j < 8796093022208) (bare : Bool) : cf p (F + 1) 53 [v,vi j,.bool bare] h = some (optV (rtextV ws j bare),h) := by
 rw [cf_step (a := a53) rfl rfl (by simp [a53])]
 have hlen := a.1.len
 cases ht : ws[j]? with
 | none =>
  have hge : ((ws.length : Int) ≤ j) := by have := List.getElem?_eq_none_iff.1 ht;omega
  simp [a53,r53_0,r53_1,r53_2,hlen,hge,rtextV,ht,optV,lit_nil]
 | some t =>
  have hlt := (List.getElem?_eq_some_iff.1 ht).1
  have hge : ¬ ((ws.length : Int) ≤ j) := by omega
  have hge' : (j : Int) < ws.length := by omega
  obtain ⟨b,o,c,cs,es,lv,an,rfl,hg,hl,t0,t1,t2⟩ := a.word ht
  have hl1 : o + j * 3 + 1 ≤ cs.length := by omega
  have hl2 : o + j * 3 + 1 + 1 ≤ cs.length := by omega
  by_cases hs : (256 : Int) < (textOf t).length
  ·have hr : rtextV ws j bare = none := by
    have hs' : ¬ (textOf t).length ≤ 256 := by omega
    rw [rtextV,ht]
    cases t <;> simp [textOf] at hs' ⊢
    ·intro _;omega
    ·omega
   rw [hr]
   simp [a53,r53_0,r53_1,r53_2,hge,hge',hg,hl2,t1,hs,optV,lit_nil]
  ·have hs' : (textOf t).length ≤ 256 := by omega
   cases t with
   | quoted s =>
    simp only [textOf] at hs hs' t1
    simp only [rkind] at t0
    simp [a53,r53_0,r53_1,r53_3,r53_4,hge,hge',hg,hl1,hl2,t0,t1,hs,rtextV,ht,hs',optV]
   | place s =>
    simp only [textOf] at hs hs' t1
    simp only [rkind] at t0
    cases bare with
    | true => simp [a53,r53_0,r53_1,r53_3,r53_4,hge,hge',hg,hl1,hl2,t0,t1,hs,rtextV,ht,hs',optV]
    | false => simp [a53,r53_0,r53_1,r53_3,r53_5,hge,hge',hg,hl1,hl2,t0,t1,hs,rtextV,ht,hs',optV,lit_nil]
   | name s =>
    simp only [textOf] at hs hs' t1
    simp only [rkind] at t0
    cases bare with
    | true => simp [a53,r53_0,r53_1,r53_3,r53_5,hge,hge',hg,hl1,hl2,t0,t1,hs,rtextV,ht,hs',optV,lit_nil]
    | false => simp [a53,r53_0,r53_1,r53_3,r53_5,hge,hge',hg,hl1,hl2,t0,t1,hs,rtextV,ht,hs',optV,lit_nil]
   | num s =>
    simp only [textOf] at hs hs' t1
    simp only [rkind] at t0
    cases bare with
    | true => simp [a53,r53_0,r53_1,r53_3,r53_5,hge,hge',hg,hl1,hl2,t0,t1,hs,rtextV,ht,hs',optV,lit_nil]
    | false => simp [a53,r53_0,r53_1,r53_3,r53_5,hge,hge',hg,hl1,hl2,t0,t1,hs,rtextV,ht,hs',optV,lit_nil]
   | semi =>
    simp only [textOf] at hs hs' t1
    simp only [rkind] at t0
    cases bare with
    | true => simp [a53,r53_0,r53_1,r53_3,r53_5,hge,hge',hg,hl1,hl2,t0,t1,hs,rtextV,ht,hs',optV,lit_nil]
    | false => simp [a53,r53_0,r53_1,r53_3,r53_5,hge,hge',hg,hl1,hl2,t0,t1,hs,rtextV,ht,hs',optV,lit_nil]
end Go.Proofs.YtnoghchcboiojaaGreatDoor
end
section
set_option maxRecDepth 100000
namespace Go.Proofs.YtnoghchcboiojaaGreatDoor
open Go.Ev
open Go.Rn (Bs Tok OA findW opTab pOp pOpArg pOpArgs pText pNum pFlags pBrief pCounted pIs w_brief w_counted)
variable {p : Bool} {F : Nat} {h : H}
def z5 : List Value := [vi 0,vs [],vs [],vi 0,vi 0]
def ROpQ (res : Option (Rn.Op × List Tok)) (ws : List Tok) (h : H) (w : Value) (h' : H) : Prop := Kept h h' [] ∧ match res with
 | some (o,t) => ∃ j',t = ws.drop j' ∧ j' ≤ ws.length ∧ w = .tuple ⟨[.agg ⟨opC o⟩,vi j',.bool true]⟩
 | none => w = .tuple ⟨[.agg ⟨z5⟩,vi 0,.bool false]⟩
theorem ptext_r (ws : List Tok) (j : Nat) (b : Bool) : pText b (ws.drop j) = (rtextV ws j b).map fun s => (s,ws.drop (j + 1)) := by
 cases ht : ws[j]? with
 | none => rw [drop_none ht,rtextV,ht];rfl
 | some t =>
  rw [drop_at ht,rtextV,ht]
  cases t with
  | place s =>
   simp only [pText]
   split <;> rfl
  | quoted s =>
   simp only [pText]
   split <;> rfl
  | _ => rfl
theorem rtext_lt {ws : List Tok} {j : Nat} {b : Bool} {s : Bs} (e : rtextV ws j b = some s) : j < ws.length := by
 cases ht : ws[j]? with
 | none => rw [rtextV,ht] at e;cases e
 | some t => exact (List.getElem?_eq_some_iff.1 ht).1
theorem pis_r (ws : List Tok) (j : Nat) (w : Bs) : pIs w (ws.drop j) = if isN ws j w = true then some (ws.drop (j + 1)) else none := by
 cases ht : ws[j]? with
 | none => rw [drop_none ht];simp [isN,ht,pIs]
 | some t =>
  rw [drop_at ht]
  cases t with
  | name s => simp [isN,ht,pIs]
  | _ => simp [isN,ht,pIs]
def RS80 : List ARes := [.cellN 4 5,.tmp 5,.tmp 6]
def E80 (p : Bool) (F : Nat) : K := evC (F + 2) (cxOf (cf p (F + 2)) (cfX XD) RS80) (.seq (.region r80_33 [4,5,6]) .ret) (endK (cfX XD) RS80) noK (endK (cfX XD) RS80)
theorem E80_eq {s : Env} {g : H} {ds : Ds} : E80 p F s g ds = evC (F + 2) (cxOf (cf p (F + 2)) (cfX XD) RS80) (.seq (.region r80_33 [4,5,6]) .ret) (endK (cfX XD) RS80) noK (endK (cfX XD) RS80) s g ds := nr rfl
def L80 (p : Bool) (F : Nat) (kn : K) (ke : Nat → K) (fuel : Nat) : K := loopK (F + 2) (cxOf (cf p (F + 2)) (cfX XD) RS80) [0,1,4,9,10,11] l80_32 (putK 2 kn ke) (endK (cfX XD) RS80) fuel
theorem L80_succ {kn : K} {ke : Nat → K} {n : Nat} {s : Env} {g : H} {ds : Ds} : L80 p F kn ke (n + 1) s g ds = evC (F + 2) (cxOf (cf p (F + 2)) (cfX XD) RS80) l80_32 (keepK [0,1,4,9,10,11] (L80 p F kn ke n)) (putK 2 kn ke) (endK (cfX XD) RS80) s g ds := loopK_succ
theorem rop_loop (h0 : H) (wv : Value) (ws : List Tok) (hW : RW h0 wv ws) (B4 B10 : Nat) (h4 : h0.size ≤ B4) (h10 : h0.size ≤ B10) (h410 : B4 ≠ B10) (q : List OA) (hq3 : q.length ≤ 8) (res : Option (Rn.Op × List Tok)) {kn : K} {ke : Nat → K}
  (hkn : ∀ (o : Rn.Op) (j : Nat) (g : H) (e : Env),Kept h0 g [] → j ≤ ws.length → hget g B4 = some (.cells z5 0 true []) → hget g B10 = some (.cells (opC o) 0 true []) → res = some (o,ws.drop j) →
    Ans (kn ((0,wv) :: (1,vi j) :: (4,.pointer (some ⟨B4,0,none⟩)) :: (9,vs (q.map oaR)) :: (10,.pointer (some ⟨B10,0,none⟩)) :: e) g []) fun w h' => ROpQ res ws h0 w h') :
  ∀ (m i : Nat) (o : Rn.Op) (j : Nat) (g : H),m = q.length - i → i ≤ q.length → j ≤ ws.length → Kept h0 g [] → hget g B4 = some (.cells z5 0 true []) → hget g B10 = some (.cells (opC o) 0 true []) → FLast (q.drop i) → (o.flags = 0 ∨ q.drop i = []) →
   res = pOpArgs (q.drop i) o (ws.drop j) → ∀ fuel,m < fuel →
   Ans (L80 p F kn ke fuel [(0,wv),(1,vi j),(4,.pointer (some ⟨B4,0,none⟩)),(9,vs (q.map oaR)),(10,.pointer (some ⟨B10,0,none⟩)),(11,vi i)] g []) fun w h' => ROpQ res ws h0 w h' := by
 have hsm := hW.2
 intro m
 induction m with
 | zero =>
  intro i o j g hm hi hj hk g4 g10 hF hf hres fuel hfu
  obtain ⟨fuel,rfl⟩ : ∃ f',fuel = f' + 1 := ⟨fuel - 1,by omega⟩
  have e : i = q.length := by omega
  subst e
  rw [List.drop_eq_nil_iff.2 (Nat.le_refl _)] at hres
  rw [L80_succ]
  simp (disch := first|omega|(simp only [zS];first|done|omega)) [l80_32,r80_8]
  exact hkn o j g _ hk hj g4 g10 hres
 | succ m ih =>
  intro i o j g hm hi hj hk g4 g10 hFl hf hres fuel hfu
  obtain ⟨fuel,rfl⟩ : ∃ f',fuel = f' + 1 := ⟨fuel - 1,by omega⟩
  have hiq : i < q.length := by omega
  obtain ⟨a,ha⟩ : ∃ a,q[i]? = some a := ⟨_,List.getElem?_eq_getElem hiq⟩
  have hda : q.drop i = a :: q.drop (i + 1) := drop_at ha
  have hiq' : (i : Int) < q.length := by omega
  have g1 : atS (ofB (q.map oaR)) (i : Int) g = some (.int .u8 (oaR a).toNat,g) := atS_ofB (by rw [List.getElem?_map,ha];rfl)
  have s4 := lt_of_get g4
  have s10 := lt_of_get g10
  have wi : IntKind.i64.wrap ((i : Int) + 1) = (i : Int) + 1 := wrap_in (by omega) (by omega)
  have wj : IntKind.i64.wrap ((j : Int) + 1) = (j : Int) + 1 := wrap_in (by omega) (by omega)
  have W := hW.kept hk
  have hno : ∀ g',Kept h0 g' [] → res = none → ROpQ res ws h0 (.tuple ⟨[.agg ⟨z5⟩,vi 0,.bool false]⟩) g' := fun g' k e => ⟨k,by rw [e]⟩
  rw [hda] at hres hFl
  have hFl' := hFl.tail
  have hf0 : o.flags = 0 := hf.elim id fun e => by rw [hda] at e;cases e
  have go : ∀ (o' : Rn.Op) (j' : Nat) (z : Int),j' ≤ ws.length → z = j' → (o'.flags = 0 ∨ q.drop (i + 1) = []) → res = pOpArgs (q.drop (i + 1)) o' (ws.drop j') →
    Ans (L80 p F kn ke fuel [(0,wv),(1,vi z),(4,.pointer (some ⟨B4,0,none⟩)),(9,vs (q.map oaR)),(10,.pointer (some ⟨B10,0,none⟩)),(11,vi ((i : Int) + 1))] (g.setIfInBounds B10 (.cells (opC o') 0 true [])) []) fun w h' => ROpQ res ws h0 w h' := by
   intro o' j' z j1 j2 j3 j4
   subst j2
   exact ih (i + 1) o' j' _ (by omega) (by omega) j1 (kept_set hk h10) (by rw [set_other (by omega)];exact g4) (by simp (disch := first|omega|(simp only [zS];first|done|omega)) []) hFl' j3 j4 fuel (by omega)
  rw [L80_succ]
  cases a with
  | p =>
   have e1 := rtext_eq (p := p) (F := F + 1) W j (by omega) true
   have hp := ptext_r ws j true
   simp only [pOpArgs,pOpArg] at hres
   rw [hp] at hres
   have hoa : (oaR .p).toNat = 80 := rfl
   rw [hoa] at g1
   cases ht : rtextV ws j true with
   | none =>
    rw [ht] at e1 hres
    simp only [optV] at e1
    simp only [Option.map_none] at hres
    simp (disch := first|omega|(simp only [zS];first|done|omega)) [l80_32,r80_8,hiq',r80_9,r80_10,g1,r80_11,r80_12,e1,g10,opC,wj,List.getElem?_cons_zero,List.getElem?_cons_succ,r80_13,r80_29,aUn,r80_30,g4,z5,RS80,lit_nil]
    exact Ans.of (hno _ (kept_set (kept_set hk h10) h4) hres)
   | some s =>
    rw [ht] at e1 hres
    simp only [optV] at e1
    simp only [Option.map_some] at hres
    have hjl := rtext_lt ht
    simp (disch := first|omega|(simp only [zS];first|done|omega)) [l80_32,r80_8,hiq',r80_9,r80_10,g1,r80_11,r80_12,e1,g10,opC,wj,List.getElem?_cons_zero,List.getElem?_cons_succ,r80_13,r80_29,aUn,r80_31,wi]
    exact go { o with place := s } (j + 1) _ (by omega) (by omega) (.inl hf0) hres
  | d =>
   have e1 := rtext_eq (p := p) (F := F + 1) W j (by omega) false
   have hp := ptext_r ws j false
   simp only [pOpArgs,pOpArg] at hres
   rw [hp] at hres
   have hoa : (oaR .d).toNat = 68 := rfl
   rw [hoa] at g1
   cases ht : rtextV ws j false with
   | none =>
    rw [ht] at e1 hres
    simp only [optV] at e1
    simp only [Option.map_none] at hres
    simp (disch := first|omega|(simp only [zS];first|done|omega)) [l80_32,r80_8,hiq',r80_9,r80_10,g1,r80_11,r80_14,r80_15,e1,g10,opC,wj,List.getElem?_cons_zero,List.getElem?_cons_succ,r80_16,r80_29,aUn,r80_30,g4,z5,RS80,lit_nil]
    exact Ans.of (hno _ (kept_set (kept_set hk h10) h4) hres)
   | some s =>
    rw [ht] at e1 hres
    simp only [optV] at e1
    simp only [Option.map_some] at hres
    have hjl := rtext_lt ht
    simp (disch := first|omega|(simp only [zS];first|done|omega)) [l80_32,r80_8,hiq',r80_9,r80_10,g1,r80_11,r80_14,r80_15,e1,g10,opC,wj,List.getElem?_cons_zero,List.getElem?_cons_succ,r80_16,r80_29,aUn,r80_31,wi]
    exact go { o with data := s } (j + 1) _ (by omega) (by omega) (.inl hf0) hres
  | v =>
   have hoa : (oaR .v).toNat = 86 := rfl
   rw [hoa] at g1
   have hlen := W.1.len
   simp only [pOpArgs,pOpArg] at hres
   have bad : pNum (ws.drop j) = none → res = none := fun e => by rw [hres,e];rfl
   cases ht : ws[j]? with
   | none =>
    have hge : ¬ ((j : Int) < ws.length) := by have := List.getElem?_eq_none_iff.1 ht;omega
    rw [drop_none ht] at bad
    simp (disch := first|omega|(simp only [zS];first|done|omega)) [l80_32,r80_8,hiq',r80_9,r80_10,g1,r80_11,r80_14,r80_17,r80_18,hlen,hge,r80_19,r80_21,wj,r80_29,aUn,r80_30,g4,z5,RS80,lit_nil]
    exact Ans.of (hno _ (kept_set hk h4) (bad rfl))
   | some t =>
    have hlt := (List.getElem?_eq_some_iff.1 ht).1
    have hge : (j : Int) < ws.length := by omega
    rw [drop_at ht] at bad hres
    obtain ⟨b,off',c,cs,es,lv,an,hwv,hg,hl,t0,t1,t2⟩ := W.word ht
    have hl1 : off' + j * 3 + 1 ≤ cs.length := by omega
    have hl3 : off' + j * 3 + 2 + 1 ≤ cs.length := by omega
    subst hwv
    by_cases hk35 : rkind t = 35
    ·obtain ⟨n,rfl⟩ : ∃ n,t = .num n := by cases t <;> simp [rkind] at hk35 ⊢
     simp only [rkind] at t0
     simp only [numOf] at t2
     simp only [pNum,Option.map_some] at hres
     simp (disch := first|omega|(simp only [zS];first|done|omega)) [l80_32,r80_8,hiq',r80_9,r80_10,g1,r80_11,r80_14,r80_17,r80_18,hge,hg,hl1,t0,r80_19,r80_20,hl3,t2,g10,opC,r80_21,wj,r80_29,aUn,r80_31,wi]
     exact go { o with version := n } (j + 1) _ (by omega) (by omega) (.inl hf0) hres
    ·have hkb : (rkind t == 35) = false := by simpa using hk35
     have hb : pNum (t :: ws.drop (j + 1)) = none := by cases t <;> first | rfl | exact absurd rfl hk35
     simp (disch := first|omega|(simp only [zS];first|done|omega)) [l80_32,r80_8,hiq',r80_9,r80_10,g1,r80_11,r80_14,r80_17,r80_18,hge,hg,hl1,t0,hkb,r80_19,r80_21,wj,r80_29,aUn,r80_30,g4,z5,RS80,lit_nil]
     exact Ans.of (hno _ (kept_set hk h4) (bad hb))
  | f =>
   have hoa : (oaR .f).toNat = 70 := rfl
   rw [hoa] at g1
   have hend := hFl.f
   rw [hend] at hres
   simp only [pOpArgs,pOpArg,pFlags,pBrief,pCounted] at hres
   have lb : str98_114_105_101_102 = ofB w_brief := rfl
   have lc : str99_111_117_110_116_101_100 = ofB w_counted := rfl
   have e1 := isName_eq (p := p) (F := F + 1) W j (by omega) w_brief
   have kf := fun x => kept_set (x := x) hk h10
   have e2 := fun x => isName_eq (p := p) (F := F + 1) (hW.kept (kf x)) (j + 1) (by omega) w_counted
   have e3 := isName_eq (p := p) (F := F + 1) W j (by omega) w_counted
   have wj2 : IntKind.i64.wrap ((j : Int) + 1 + 1) = (j : Int) + 1 + 1 := wrap_in (by omega) (by omega)
   have isN_lt : ∀ {j w},isN ws j w = true → j < ws.length := by
    intro j w e
    have : ws[j]? = some (.name w) := by simpa [isN] using e
    exact (List.getElem?_eq_some_iff.1 this).1
   have w12 : IntKind.i64.wrap (1 + 2) = 3 := by decide
   have w02 : IntKind.i64.wrap (0 + 2) = 2 := by decide
   push_cast at e2
   rw [pis_r] at hres
   cases hb : isN ws j w_brief with
   | true =>
    have hjl := isN_lt hb
    rw [hb] at e1 hres
    simp only [if_true] at hres
    rw [pis_r] at hres
    cases hc : isN ws (j + 1) w_counted with
    | true =>
     have hjl2 := isN_lt hc
     rw [hc] at hres
     simp only [hc] at e2
     simp only [if_true] at hres
     simp (disch := first|omega|(simp only [zS];first|done|omega)) [l80_32,r80_8,hiq',r80_9,r80_10,g1,r80_11,r80_14,r80_17,r80_22,r80_23,lb,e1,r80_24,g10,opC,r80_25,wj,r80_26,lc,e2,r80_27,w12,r80_28,wj2,r80_29,aUn,r80_31,wi]
     have := go { o with flags := 3 } (j + 1 + 1) ((j : Int) + 1 + 1) (by omega) (by omega) (.inr hend) (by rw [hend,hres];rfl)
     exact this
    | false =>
     rw [hc] at hres
     simp only [hc] at e2
     simp only [Bool.false_eq_true,if_false] at hres
     simp (disch := first|omega|(simp only [zS];first|done|omega)) [l80_32,r80_8,hiq',r80_9,r80_10,g1,r80_11,r80_14,r80_17,r80_22,r80_23,lb,e1,r80_24,g10,opC,r80_25,wj,r80_26,lc,e2,r80_29,aUn,r80_31,wi]
     have := go { o with flags := 1 } (j + 1) ((j : Int) + 1) (by omega) (by omega) (.inr hend) (by rw [hend,hres];rfl)
     exact this
   | false =>
    rw [hb] at e1 hres
    simp only [Bool.false_eq_true,if_false] at hres
    rw [pis_r] at hres
    cases hc : isN ws j w_counted with
    | true =>
     have hjl2 := isN_lt hc
     rw [hc] at hres e3
     simp only [if_true] at hres
     simp (disch := first|omega|(simp only [zS];first|done|omega)) [l80_32,r80_8,hiq',r80_9,r80_10,g1,r80_11,r80_14,r80_17,r80_22,r80_23,lb,e1,g10,opC,r80_26,lc,e3,r80_27,hf0,w02,r80_28,wj,r80_29,aUn,r80_31,wi]
     have := go { o with flags := 2 } (j + 1) ((j : Int) + 1) (by omega) (by omega) (.inr hend) (by rw [hend,hres];rfl)
     exact this
    | false =>
     rw [hc] at hres e3
     simp only [Bool.false_eq_true,if_false] at hres
     simp (disch := first|omega|(simp only [zS];first|done|omega)) [l80_32,r80_8,hiq',r80_9,r80_10,g1,r80_11,r80_14,r80_17,r80_22,r80_23,lb,e1,r80_26,lc,e3,r80_29,aUn,r80_31,wi]
     have ho : ({ o with flags := 0 } : Rn.Op) = o := by cases o;simp at hf0;simp [hf0]
     rw [ho] at hres
     have := ih (i + 1) o j g (by omega) (by omega) hj hk g4 g10 hFl' (.inr hend) (by rw [hend,hres];rfl) fuel (by omega)
     exact this
end Go.Proofs.YtnoghchcboiojaaGreatDoor
end
section
set_option maxRecDepth 100000
namespace Go.Proofs.YtnoghchcboiojaaGreatDoor
open Go.Ev
open Go.Rn (Bs Tok OA Ar findW opTab stepTab pOp pOpArgs)
variable {p : Bool} {F : Nat} {h : H}
def pOpK (k : Nat) (l : List (Bs × List OA)) : List Tok → Option (Rn.Op × List Tok)
 | .name w :: t => match findW w k l with
  | some (k,r) => pOpArgs r { kind := k } t
  | none => none
 | _ => none
theorem pOpK_is (t : List Tok) : pOp t = pOpK 1 opTab t := by
 cases t with
 | nil => rfl
 | cons a l => cases a <;> rfl
theorem pOpK_nil (k : Nat) (t : List Tok) : pOpK k [] t = none := by
 cases t with
 | nil => rfl
 | cons a l => cases a <;> rfl
theorem pOpK_cons (k : Nat) (n : Bs) (r : List OA) (l : List (Bs × List OA)) (ws : List Tok) (j : Nat) : pOpK k ((n,r) :: l) (ws.drop j) = if isN ws j n = true then pOpArgs r { kind := k } (ws.drop (j + 1)) else pOpK (k + 1) l (ws.drop j) := by
 cases ht : ws[j]? with
 | none => rw [drop_none ht];simp [isN,ht,pOpK]
 | some t =>
  rw [drop_at ht]
  cases t with
  | name s =>
   by_cases e : s = n
   ·subst e;simp [isN,ht,pOpK,findW]
   ·have e' : ¬ n = s := fun q => e q.symm
    simp [isN,ht,pOpK,findW,e,e']
  | _ => simp [isN,ht,pOpK]
def L80o (p : Bool) (F : Nat) (fuel : Nat) : K := loopK (F + 2) (cxOf (cf p (F + 2)) (cfX XD) RS80) [0,1,4,7] l80_35 (putK 0 (evC (F + 2) (cxOf (cf p (F + 2)) (cfX XD) RS80) (.seq (.region r80_36 [4,5,6]) .ret) (endK (cfX XD) RS80) noK (endK (cfX XD) RS80)) noK) (endK (cfX XD) RS80) fuel
theorem L80o_succ {n : Nat} {s : Env} {g : H} {ds : Ds} : L80o p F (n + 1) s g ds = evC (F + 2) (cxOf (cf p (F + 2)) (cfX XD) RS80) l80_35 (keepK [0,1,4,7] (L80o p F n)) (putK 0 (evC (F + 2) (cxOf (cf p (F + 2)) (cfX XD) RS80) (.seq (.region r80_36 [4,5,6]) .ret) (endK (cfX XD) RS80) noK (endK (cfX XD) RS80)) noK) (endK (cfX XD) RS80) s g ds := loopK_succ
theorem rop_outer (h0 : H) (hG : GloR h0) (wv : Value) (ws : List Tok) (hW : RW h0 wv ws) (B4 : Nat) (h4 : h0.size ≤ B4) (j : Nat) (hj : j ≤ ws.length) (hF : 100 < F) :
  ∀ (l : List (Bs × List OA)) (k : Nat) (g : H),1 ≤ k → l = opTab.drop (k - 1) → k + l.length = 8 → Kept h0 g [] → hget g B4 = some (.cells z5 0 true []) → ∀ fuel,l.length < fuel →
   Ans (L80o p F fuel [(0,wv),(1,vi j),(4,.pointer (some ⟨B4,0,none⟩)),(7,vi k)] g []) fun w h' => ROpQ (pOpK k l (ws.drop j)) ws h0 w h' := by
 have hsm := hW.2
 intro l
 induction l with
 | nil =>
  intro k g hk1 hl hk8 hk g4 fuel hfu
  obtain ⟨fuel,rfl⟩ : ∃ f',fuel = f' + 1 := ⟨fuel - 1,by omega⟩
  have e : k = 8 := by simpa using hk8
  subst e
  have s4 := lt_of_get g4
  rw [L80o_succ,pOpK_nil]
  simp (disch := first|omega|(simp only [zS];first|done|omega)) [l80_35,r80_2,r80_36,g4,z5,RS80,lit_nil]
  exact Ans.of ⟨kept_set hk h4,rfl⟩
 | cons a l ih =>
  intro k g hk1 hl hk8 hk g4 fuel hfu
  obtain ⟨fuel,rfl⟩ : ∃ f',fuel = f' + 1 := ⟨fuel - 1,by omega⟩
  obtain ⟨n,r⟩ := a
  have hat : opTab[k - 1]? = some (n,r) := by
   have := congrArg (·[0]?) hl
   simpa using this.symm
  have hl' : l = opTab.drop (k + 1 - 1) := by
   have := congrArg List.tail hl
   rw [List.tail_drop] at this
   rw [show k + 1 - 1 = k - 1 + 1 by omega]
   simpa using this
  have hk7 : k < 8 := by simp at hk8;omega
  have hmem := List.mem_of_getElem? hat
  obtain ⟨hh,hlen,hq8⟩ := opLs_head _ hmem
  simp only at hh hlen hq8
  have s4 := lt_of_get g4
  have hk7' : (k : Int) < 8 := by omega
  have gl := (hG.kept hk).opl
  have hrow : ((opLs.map vs).drop k).take 1 = [vs (n ++ 32 :: r.map oaR)] := by
   have h1 : opLs[k]? = some (n ++ 32 :: r.map oaR) := by
    obtain ⟨k',rfl⟩ : ∃ k',k = k' + 1 := ⟨k - 1,by omega⟩
    simp only [Nat.add_sub_cancel] at hat
    simp [opLs,hat]
   have h2 := (List.getElem?_eq_some_iff.1 h1)
   obtain ⟨h3,h4⟩ := h2
   rw [List.drop_eq_getElem_cons (by simpa using h3)]
   simp [h4]
  have hlen8 : (opLs.map vs).length = 8 := rfl
  have hk8' : k + 1 ≤ (opLs.map vs).length := by rw [hlen8];omega
  have e1 := head_eq (p := p) (F := F + 1) (h := g) (n ++ 32 :: r.map oaR) (by omega) (by omega)
  rw [hh] at e1
  have e2 := isName_eq (p := p) (F := F + 1) (hW.kept hk) j (by omega) n
  have wk : IntKind.i64.wrap ((k : Int) + 1) = (k : Int) + 1 := wrap_in (by omega) (by omega)
  have wj : IntKind.i64.wrap ((j : Int) + 1) = (j : Int) + 1 := wrap_in (by omega) (by omega)
  generalize opLs.map vs = tb at *
  have gn : (3 < gN) = True := eq_true (by decide)
  rw [L80o_succ,pOpK_cons]
  cases hn : isN ws j n with
  | false =>
   rw [hn] at e2
   simp only [Bool.false_eq_true,if_false]
   simp (disch := first|omega|(simp only [zS];first|done|omega)) [l80_35,r80_2,hk7',r80_3,gn,gl,hrow,hk8',e1,List.getElem?_cons_zero,List.getElem?_cons_succ,r80_4,e2,aUn,r80_34,wk]
   exact ih (k + 1) g (by omega) hl' (by simp at hk8;omega) hk g4 fuel (by simp at hfu;omega)
  | true =>
   rw [hn] at e2
   simp only [if_true]
   have hjl : j < ws.length := by
    have : ws[j]? = some (.name n) := by simpa [isN] using hn
    exact (List.getElem?_eq_some_iff.1 this).1
   simp (disch := first|omega|(simp only [zS];first|done|omega)) [l80_35,r80_2,hk7',r80_3,gn,gl,hrow,hk8',e1,List.getElem?_cons_zero,List.getElem?_cons_succ,r80_4,e2,aUn,r80_5,r80_6,wj,r80_7]
   have kn := rowKept g (opC { kind := k }) 0 []
   have hrow : Ev.newRow g [vi k,.string { data := #[] },.string { data := #[] },vi 0,vi 0] 0 [] = Ev.newRow g (opC { kind := k }) 0 [] := rfl
   refine rop_loop (p := p) (F := F) h0 wv ws hW B4 g.size h4 hk.1 (by omega) r hq8 _ ?_ (r.length - 0) 0 { kind := k } (j + 1) _ rfl (Nat.zero_le _) (by omega) (hk.trans kn) ?_ ?_ (flast_tab _ hmem) (.inl rfl) rfl (F + 2) (by omega)
   ·intro o j' g' e k' j1 a4 a10 hres
    have t4 := lt_of_get a4
    have t10 := lt_of_get a10
    simp (disch := first|omega|(simp only [zS];first|done|omega)) [r80_33,a4,a10,opC,z5,RS80]
    refine Ans.of ⟨kept_set k' h4,?_⟩
    rw [List.drop_zero] at hres
    rw [hres]
    exact ⟨j',rfl,j1,rfl⟩
   ·rw [kn.get s4 (by simp)];exact g4
   ·simp
theorem rop_spec {wv : Value} {ws : List Tok} (hG : GloR h) (hW : RW h wv ws) (j : Nat) (hj : j ≤ ws.length) (hF : 100 < F) : Ans (cf p (F + 3) 80 [wv,vi j] h) fun w h' => ROpQ (pOp (ws.drop j)) ws h w h' := by
 rw [cf_step (a := a80) rfl rfl (by simp [a80])]
 have k0 := rowKept h z5 0 []
 have hrow : Ev.newRow h [vi 0,.string { data := #[] },.string { data := #[] },vi 0,vi 0] 0 [] = Ev.newRow h z5 0 [] := rfl
 have main := rop_outer (p := p) (F := F) h hG wv ws hW h.size (Nat.le_refl _) j hj hF opTab 1 (Ev.newRow h z5 0 []) (Nat.le_refl _) rfl rfl k0 (by simp) (F + 2) (by show 7 < F + 2;omega)
 rw [← pOpK_is] at main
 simp (disch := first|omega|(simp only [zS];first|done|omega)) [a80,r80_0,r80_1]
 rw [hrow]
 exact main
end Go.Proofs.YtnoghchcboiojaaGreatDoor
end
section
set_option maxRecDepth 100000
namespace Go.Proofs.YtnoghchcboiojaaGreatDoor
open Go.Ev
open Go.Rn (Bs Tok OA Ar findW opTab stepTab pOp pOps)
variable {p : Bool} {F : Nat} {h : H}
def RAllQ (res : Option (List Rn.Op)) (h : H) (w : Value) (h' : H) : Prop := Kept h h' [] ∧ match res with
 | some l => ∃ lv,w = .tuple ⟨[lv,.bool true]⟩ ∧ Bld (fun b => h.size ≤ b) 5 OpR h' lv l
 | none => w = .tuple ⟨[.slice none 0 0,.bool false]⟩
def RS54 : List ARes := [.tmp 4,.tmp 5]
def L54 (p : Bool) (F : Nat) (ke : Nat → K) (fuel : Nat) : K := loopK (F + 3) (cxOf (cf p (F + 3)) (cfX XD) RS54) [0,1,6] l54_11 ke (endK (cfX XD) RS54) fuel
theorem L54_succ {ke : Nat → K} {n : Nat} {s : Env} {g : H} {ds : Ds} : L54 p F ke (n + 1) s g ds = evC (F + 3) (cxOf (cf p (F + 3)) (cfX XD) RS54) l54_11 (keepK [0,1,6] (L54 p F ke n)) ke (endK (cfX XD) RS54) s g ds := loopK_succ
theorem rall_loop (h0 : H) (hG : GloR h0) (wv : Value) (ws : List Tok) (hW : RW h0 wv ws) (hF : 100 < F) (res : Option (List Rn.Op)) {ke : Nat → K} :
  ∀ (n : Nat) (acc : List Rn.Op) (j : Nat) (lv : Value) (g : H),n + acc.length = 4 → j ≤ ws.length → Kept h0 g [] → Bld (fun b => h0.size ≤ b) 5 OpR g lv acc → res = (pOps n (ws.drop j)).map (fun l => acc ++ l) → ∀ fuel,n < fuel →
   Ans (L54 p F ke fuel [(0,wv),(1,vi j),(6,lv)] g []) fun w h' => RAllQ res h0 w h' := by
 have hsm := hW.2
 intro n
 induction n with
 | zero =>
  intro acc j lv g hn hj hk hB hres fuel hfu
  obtain ⟨fuel,rfl⟩ : ∃ f',fuel = f' + 1 := ⟨fuel - 1,by omega⟩
  have e1 := rop_spec (p := p) (F := F) (hG.kept hk) (hW.kept hk) j hj hF
  have hlen := hB.sl.len
  rw [show acc.length = 4 by omega] at hlen
  have hr : res = none := by rw [hres];rfl
  rw [L54_succ]
  simp (disch := first|omega|(simp only [zS];first|done|omega)) [l54_11,r54_2]
  refine Ans.nextC e1 ?_
  rintro w g2 ⟨k2,Q⟩
  cases hp : pOp (ws.drop j) with
  | none =>
   rw [hp] at Q
   simp only at Q
   subst Q
   simp (disch := first|omega|(simp only [zS];first|done|omega)) [List.getElem?_cons_zero,List.getElem?_cons_succ,z5,r54_3,aUn,r54_4,RS54]
   exact Ans.of ⟨(hk.trans k2).trans (rowKept _ _ _ _),by rw [hr]⟩
  | some q =>
   obtain ⟨o,t⟩ := q
   rw [hp] at Q
   obtain ⟨j',rfl,j1,rfl⟩ := Q
   simp (disch := first|omega|(simp only [zS];first|done|omega)) [List.getElem?_cons_zero,List.getElem?_cons_succ,opC,r54_3,aUn,hlen,r54_4,RS54]
   exact Ans.of ⟨(hk.trans k2).trans (rowKept _ _ _ _),by rw [hr]⟩
 | succ n ih =>
  intro acc j lv g hn hj hk hB hres fuel hfu
  obtain ⟨fuel,rfl⟩ : ∃ f',fuel = f' + 1 := ⟨fuel - 1,by omega⟩
  have e1 := rop_spec (p := p) (F := F) (hG.kept hk) (hW.kept hk) j hj hF
  have hlen := hB.sl.len
  rw [L54_succ]
  simp (disch := first|omega|(simp only [zS];first|done|omega)) [l54_11,r54_2]
  refine Ans.nextC e1 ?_
  rintro w g2 ⟨k2,Q⟩
  cases hp : pOp (ws.drop j) with
  | none =>
   rw [hp] at Q
   simp only at Q
   subst Q
   have hr : res = none := by rw [hres];simp only [pOps,hp];rfl
   simp (disch := first|omega|(simp only [zS];first|done|omega)) [List.getElem?_cons_zero,List.getElem?_cons_succ,z5,r54_3,aUn,r54_4,RS54]
   exact Ans.of ⟨(hk.trans k2).trans (rowKept _ _ _ _),by rw [hr]⟩
  | some q =>
   obtain ⟨o,t⟩ := q
   rw [hp] at Q
   obtain ⟨j',rfl,j1,rfl⟩ := Q
   have k3 := rowKept g2 (opC o) 0 []
   have hk3 := (hk.trans k2).trans k3
   have hB3 := hB.kept (k2.trans k3) (by simp) fun cs x _ q => q
   obtain ⟨lv',g4,a1,a2,a3,a4⟩ := bld_put1 hB3 (bytes := 56) (opC o) (x := o) rfl (by omega) (by have := hk3.1;omega) (fun _ _ _ _ _ _ q => q) (fun _ _ => rfl)
   have b7 : hget (Ev.newRow g2 (opC o) 0 []) g2.size = some (.cells (opC o) 0 true []) := by simp
   have k4 : Kept h0 g4 [] := kept_of hk3 a3.1 fun b hb => a4 b (by have := hk3.1;omega) (by omega)
   have hne4 : ((acc.length : Int) == 4) = false := by simp;omega
   have W4 := hW.kept k4
   have hlenW := W4.1.len
   have h1w := a2.sl.one
   unfold oneCell at h1w
   simp only [opC] at a1 b7
   by_cases hend : j' = ws.length
   ·have hq : ((j' : Int) == ws.length) = true := by simp [hend]
    have hr : res = some (acc ++ [o]) := by
     rw [hres]
     simp only [pOps,hp]
     rw [List.drop_eq_nil_iff.2 (by omega)]
     rfl
    simp (disch := first|omega|(simp only [zS];first|done|omega)) [List.getElem?_cons_zero,List.getElem?_cons_succ,opC,r54_3,aUn,hlen,hne4,r54_5,b7,srcOf,isText,a1,r54_6,hlenW,hq,r54_7,RS54,h1w]
    exact Ans.of ⟨k4,by rw [hr];exact ⟨lv',rfl,a2⟩⟩
   ·have hq : ((j' : Int) == ws.length) = false := by simp;omega
    obtain ⟨t,ht⟩ : ∃ t,ws[j']? = some t := ⟨_,List.getElem?_eq_getElem (by omega)⟩
    obtain ⟨b,off',c,cs,es,lv2,an,hwv,hg,hl,t0,t1,t2⟩ := W4.word ht
    have hl1 : off' + j' * 3 + 1 ≤ cs.length := by omega
    have hj' : (j' : Int) < ws.length := by omega
    have wj : IntKind.i64.wrap ((j' : Int) + 1) = (j' : Int) + 1 := wrap_in (by omega) (by omega)
    by_cases hs : t = .semi
    ·subst hs
     simp only [rkind] at t0
     have hr : res = (pOps n (ws.drop (j' + 1))).map (fun l => (acc ++ [o]) ++ l) := by
      rw [hres]
      simp only [pOps,hp]
      rw [drop_at ht]
      simp [Option.map_map,Function.comp_def]
     subst hwv
     simp (disch := first|omega|(simp only [zS];first|done|omega)) [List.getElem?_cons_zero,List.getElem?_cons_succ,opC,r54_3,aUn,hlen,hne4,r54_5,b7,srcOf,isText,a1,r54_6,hq,r54_8,hj',hg,hl1,t0,r54_10,wj]
     have := ih (acc ++ [o]) (j' + 1) lv' g4 (by simp;omega) (by omega) k4 a2 hr fuel (by omega)
     exact this
    ·have hkb : (rkind t != 59) = true := by cases t <;> first | rfl | exact absurd rfl hs
     have hr : res = none := by
      rw [hres]
      simp only [pOps,hp]
      rw [drop_at ht]
      cases t <;> first | rfl | exact absurd rfl hs
     subst hwv
     simp (disch := first|omega|(simp only [zS];first|done|omega)) [List.getElem?_cons_zero,List.getElem?_cons_succ,opC,r54_3,aUn,hlen,hne4,r54_5,b7,srcOf,isText,a1,r54_6,hq,r54_8,hj',hg,hl1,t0,hkb,r54_9,RS54]
     exact Ans.of ⟨k4,by rw [hr]⟩
theorem rall_spec {wv : Value} {ws : List Tok} (hG : GloR h) (hW : RW h wv ws) (j : Nat) (hj : j ≤ ws.length) (hF : 100 < F) : Ans (cf p (F + 4) 54 [wv,vi j] h) fun w h' => RAllQ (pOps 4 (ws.drop j)) h w h' := by
 rw [cf_step (a := a54) rfl rfl (by simp [a54])]
 simp (disch := first|omega|(simp only [zS];first|done|omega)) [a54,r54_0,r54_1]
 refine rall_loop (p := p) (F := F) h hG wv ws hW hF _ 4 [] j (.slice none 0 0) h rfl hj (Kept.refl _ _) (Bld.nil _ _ _ _) ?_ (F + 3) (by omega)
 simp
end Go.Proofs.YtnoghchcboiojaaGreatDoor
end
section
set_option maxRecDepth 100000
namespace Go.Proofs.YtnoghchcboiojaaGreatDoor
open Go.Ev
open Go.Rn (Bs Tok Ar pKind w_node w_kids w_subtree)
variable {p : Bool} {F : Nat} {h : H}
theorem pkind_r (ws : List Tok) (j : Nat) : pKind (ws.drop j) = if isN ws j w_node = true then some (1,ws.drop (j + 1)) else if isN ws j w_kids = true then some (2,ws.drop (j + 1)) else if isN ws j w_subtree = true then some (3,ws.drop (j + 1)) else none := by
 cases ht : ws[j]? with
 | none => rw [drop_none ht];simp [isN,ht,pKind]
 | some t =>
  rw [drop_at ht]
  cases t with
  | name s => simp [isN,ht,pKind]
  | _ => simp [isN,ht,pKind]
theorem isN_one {ws : List Tok} {j : Nat} {a b : Bs} (h : isN ws j a = true) (hab : a ≠ b) : isN ws j b = false := by
 simp only [isN,decide_eq_true_eq] at h
 simp only [isN,h,decide_eq_false_iff_not,Option.some.injEq,Tok.name.injEq]
 exact hab
theorem lits_k : str110_111_100_101 = ofB w_node ∧ str107_105_100_115 = ofB w_kids ∧ str115_117_98_116_114_101_101 = ofB w_subtree := ⟨rfl,rfl,rfl⟩
def LK (cx : Cx) (F0 : Nat) (ke : Nat → K) (kr : K) (fuel : Nat) : K := loopK F0 cx [0,2,6,7,8,9,10,11,12,13] l25_37 ke kr fuel
theorem LK_succ {cx : Cx} {F0 : Nat} {ke : Nat → K} {kr : K} {n : Nat} {s : Env} {g : H} {ds : Ds} : LK cx F0 ke kr (n + 1) s g ds = evC F0 cx l25_37 (keepK [0,2,6,7,8,9,10,11,12,13] (LK cx F0 ke kr n)) ke kr s g ds := loopK_succ
theorem w2 : IntKind.i64.wrap 2 = 2 := by decide
theorem w3 : IntKind.i64.wrap 3 = 3 := by decide
theorem w4 : IntKind.i64.wrap 4 = 4 := by decide
theorem kind_loop (h0 g : H) (wv : Value) (ws : List Tok) (hW : RW h0 wv ws) (hk : Kept h0 g []) (j : Nat) (hj : j < 8796093022208) (B7 Bn : Nat) (h7 : h0.size ≤ B7) (h7n : B7 ≠ Bn) (x0 x1 x2 x3 x4 x5 : Value)
  (g7 : hget g B7 = some (.cells [x0,x1,x2,x3,x4,x5] 0 true [])) (es : Nat) (gn : hget g Bn = some (.cells [vs [],vs w_node,vs w_kids,vs w_subtree] es true []))
  {cd : DCF} {rs : List ARes} {kn : K} {ke : Nat → K} {kr : K} {ds : Ds} {F0 fuel : Nat} {v2 v6 v9 v10 : Value} :
  LK (cxOf (cf p (F + 1)) cd rs) F0 (putK 6 kn ke) kr (fuel + 4) [(0,wv),(2,v2),(6,v6),(7,.pointer (some ⟨B7,0,none⟩)),(8,vi j),(9,v9),(10,v10),(11,.bool false),(12,.slice (some ⟨Bn,0,none⟩) 4 4),(13,vi 1)] g ds =
   kn [(0,wv),(2,v2),(6,v6),(7,.pointer (some ⟨B7,0,none⟩)),(8,vi j),(9,v9),(10,v10),(11,.bool (pKind (ws.drop j)).isSome),(12,.slice (some ⟨Bn,0,none⟩) 4 4),(13,vi 4),(97,.bool false)]
    (match pKind (ws.drop j) with
      | some q => g.setIfInBounds B7 (.cells [x0,x1,vi q.1,x3,x4,x5] 0 true [])
      | none => g) ds := by
 have s7 := lt_of_get g7
 have e1 := isName_eq (p := p) (F := F) (hW.kept hk) j hj w_node
 have e2 := isName_eq (p := p) (F := F) (hW.kept hk) j hj w_kids
 have e3 := isName_eq (p := p) (F := F) (hW.kept hk) j hj w_subtree
 have f2 := fun x => isName_eq (p := p) (F := F) (hW.kept (kept_set (x := x) hk h7)) j hj w_kids
 have f3 := fun x => isName_eq (p := p) (F := F) (hW.kept (kept_set (x := x) hk h7)) j hj w_subtree
 rw [pkind_r]
 rw [LK_succ]
 cases h1 : isN ws j w_node with
 | true =>
  have h2 := isN_one h1 (show w_node ≠ w_kids by decide)
  have h3 := isN_one h1 (show w_node ≠ w_subtree by decide)
  rw [h1] at e1
  simp only [h2] at f2
  simp only [h3] at f3
  simp (disch := first|omega|(simp only [zS];first|done|omega)) [l25_37,r25_32,r25_33,gn,e1,r25_34,g7,r25_35,r25_36,w2,w3,w4]
  rw [LK_succ]
  simp (disch := first|omega|(simp only [zS];first|done|omega)) [l25_37,r25_32,r25_33,gn,f2,r25_36,w2,w3,w4]
  rw [LK_succ]
  simp (disch := first|omega|(simp only [zS];first|done|omega)) [l25_37,r25_32,r25_33,gn,f3,r25_36,w2,w3,w4]
  rw [LK_succ]
  simp (disch := first|omega|(simp only [zS];first|done|omega)) [l25_37,r25_32]
 | false =>
  rw [h1] at e1
  simp (disch := first|omega|(simp only [zS];first|done|omega)) [l25_37,r25_32,r25_33,gn,e1,r25_36,w2,w3,w4]
  rw [LK_succ]
  cases h2 : isN ws j w_kids with
  | true =>
   have h3 := isN_one h2 (show w_kids ≠ w_subtree by decide)
   rw [h2] at e2
   simp only [h3] at f3
   simp (disch := first|omega|(simp only [zS];first|done|omega)) [l25_37,r25_32,r25_33,gn,e2,r25_34,g7,r25_35,r25_36,w2,w3,w4]
   rw [LK_succ]
   simp (disch := first|omega|(simp only [zS];first|done|omega)) [l25_37,r25_32,r25_33,gn,f3,r25_36,w2,w3,w4]
   rw [LK_succ]
   simp (disch := first|omega|(simp only [zS];first|done|omega)) [l25_37,r25_32]
  | false =>
   rw [h2] at e2
   simp (disch := first|omega|(simp only [zS];first|done|omega)) [l25_37,r25_32,r25_33,gn,e2,r25_36,w2,w3,w4]
   rw [LK_succ]
   cases h3 : isN ws j w_subtree with
   | true =>
    rw [h3] at e3
    simp (disch := first|omega|(simp only [zS];first|done|omega)) [l25_37,r25_32,r25_33,gn,e3,r25_34,g7,r25_35,r25_36,w2,w3,w4]
    rw [LK_succ]
    simp (disch := first|omega|(simp only [zS];first|done|omega)) [l25_37,r25_32]
   | false =>
    rw [h3] at e3
    simp (disch := first|omega|(simp only [zS];first|done|omega)) [l25_37,r25_32,r25_33,gn,e3,r25_36,w2,w3,w4]
    rw [LK_succ]
    simp (disch := first|omega|(simp only [zS];first|done|omega)) [l25_37,r25_32]
end Go.Proofs.YtnoghchcboiojaaGreatDoor
end
