/- Texts of the proofs over heraldlaw18, put together by a program (merge18c.py): Rw5 Ry0 Ry1 Ry2 Sx0 Sx1 Rq3 Rw1 Rj0 Rw2 Tx0 Tx1 Tx2 Tx3 Tx4 Sy0 Sy1a. -/
import Derived.Test.YtnoghchcboiojaaGreatDoorD11
import Derived.Test.YtnoghchcboiojaaGreatDoorC0
import Derived.Test.YtnoghchcboiojaaGreatDoorD10
import Derived.Test.YtnoghchcboiojaaGreatDoorC17
set_option linter.unusedVariables false
set_option linter.unusedSimpArgs false
section
set_option maxRecDepth 100000
namespace Go.Proofs.YtnoghchcboiojaaGreatDoor
open Go.Ev
open Go.Rn (Bs Ar St stepTab stT argT stRes clrS joinW placed quote numT w_node w_kids w_subtree)
variable {p : Bool} {F : Nat} {h : H}
def Wat (h : H) : Prop := ∃ rest es lv an,hget h 1 = some (.cells (vs [] :: vs w_node :: vs w_kids :: vs w_subtree :: rest) es lv an)
theorem Wat.kept {h' : H} (g : Wat h) (k : Kept h h' []) : Wat h' := by
 obtain ⟨rest,es,lv,an,e⟩ := g
 exact ⟨rest,es,lv,an,(k.get (lt_of_get e) (by simp)).trans e⟩
theorem Glo.wat (g : Glo h) : Wat h := ⟨[],_,_,_,g.watches⟩
def E32 (p : Bool) (F : Nat) : K := evC (F + 7) (cxOf (cf p (F + 7)) (cfX XD) [.tmp 2]) (.seq (.seq (.region r32_24 [5,112]) (.cond (.tmp 112) (.region r32_25 [5]) .skip)) (.seq (.region r32_26 [2]) .ret)) (endK (cfX XD) [.tmp 2]) noK (endK (cfX XD) [.tmp 2])
theorem E32_eq {s : Env} {g : H} {ds : Ds} : E32 p F s g ds = evC (F + 7) (cxOf (cf p (F + 7)) (cfX XD) [.tmp 2]) (.seq (.seq (.region r32_24 [5,112]) (.cond (.tmp 112) (.region r32_25 [5]) .skip)) (.seq (.region r32_26 [2]) .ret)) (endK (cfX XD) [.tmp 2]) noK (endK (cfX XD) [.tmp 2]) s g ds := nr rfl
def L32 (p : Bool) (F : Nat) (fuel : Nat) : K := loopK (F + 7) (cxOf (cf p (F + 7)) (cfX XD) [.tmp 2]) [1,4,5,19] l32_23 (putK 0 (E32 p F) noK) (endK (cfX XD) [.tmp 2]) fuel
theorem L32_succ {n : Nat} {s : Env} {g : H} {ds : Ds} : L32 p F (n + 1) s g ds = evC (F + 7) (cxOf (cf p (F + 7)) (cfX XD) [.tmp 2]) l32_23 (keepK [1,4,5,19] (L32 p F n)) (putK 0 (E32 p F) noK) (endK (cfX XD) [.tmp 2]) s g ds := loopK_succ
def lfV (ov : Value) (lf : St) : Value := if lf.ops = [] then .slice none 0 0 else ov
theorem stepTab_len' {q : Bs × List Ar} (h : q ∈ stepTab) : q.2.length ≤ 3 ∧ q.1.length ≤ 7 := Rn.stepTab_len q h
theorem stRes_bad {s lf : St} {acc : List Bs} {y : Ar} {l : List Ar} (h : argT s y = none) : stRes s lf acc (y :: l) = none := by rw [Rn.stRes_cons,h]
theorem stRes_ok {s lf : St} {acc : List Bs} {t : Bs} {y : Ar} {l : List Ar} (h : argT s y = some t) : stRes s lf acc (y :: l) = stRes s (clrS lf y) (acc ++ [t]) l := by rw [Rn.stRes_cons,h]
theorem st_zero (lf : St) : (decide (lf.a ≠ 0) || decide (lf.b ≠ 0) || decide (lf.c ≠ 0) || decide (lf.place ≠ []) || decide (lf.ops ≠ [])) = !decide ({ lf with kind := 0 } = ({} : St)) := by
 obtain ⟨k,a,b,c,pl,o⟩ := lf
 by_cases h1 : a = 0 <;> by_cases h2 : b = 0 <;> by_cases h3 : c = 0 <;> by_cases h4 : pl = [] <;> by_cases h5 : o = [] <;> simp [h1,h2,h3,h4,h5]
set_option maxHeartbeats 1000000 in
theorem stT_loop (s : St) (ov : Value) (l : List Ar) (hl : l.length ≤ 3) (B1 B4 B19 : Nat) (hF : 300 < F) (h0 : H) (hb1 : h0.size ≤ B1) (hb4 : B1 < B4) (hb19 : B4 < B19) (hG : Wat h0) (hov : OvR h0 ov s.ops) (text : Bs) (ht : text = l.map arB) (res : Option Bs) :
  ∀ (m : Nat) (q : Nat) (lf : St) (lo : Value) (acc : List Bs) (lv : Value) (g : H),m = l.length - q → q ≤ l.length → Kept h0 g [] → hget g B1 = some (.cells (stC s ov) 0 true []) → hget g B4 = some (.cells (stC lf lo) 0 true []) → lf.kind = 0 →
   (lo = ov ∧ lf.ops = s.ops ∨ lo = .slice none 0 0 ∧ lf.ops = []) →
   hget g B19 = some (.iter (ofB text) q) → Bld (fun b => B4 < b ∧ b ≠ B19) 1 TxR g lv acc → acc ≠ [] → acc.length ≤ q + 1 → (∀ w ∈ acc,w.length ≤ 40000) → res = stRes s lf acc (l.drop q) →
   ∀ fuel,m < fuel → Ans (L32 p F fuel [(1,.pointer (some ⟨B1,0,none⟩)),(4,.pointer (some ⟨B4,0,none⟩)),(5,lv),(19,.pointer (some ⟨B19,0,none⟩))] g []) fun w h' => Kept h0 h' [] ∧ w = offT res := by
 intro m
 induction m with
 | zero =>
  intro q lf lo acc lv g hm hq hk g1 g4 hkd hlo g19 hB hne hal hwl hres fuel hfu
  obtain ⟨fuel,rfl⟩ : ∃ f',fuel = f' + 1 := ⟨fuel - 1,by omega⟩
  have e : q = l.length := by omega
  subst e
  have n1 := nxS_end g19 (by rw [ht];simp)
  rw [List.drop_eq_nil_iff.2 (Nat.le_refl _),Rn.stRes_nil] at hres
  have hs4 := lt_of_get g4
  have e1 := fun g => fail_eq (p := p) (F := F + 6) (h := g)
  have hjl := Rn.joinW_len hwl
  have hj3 : acc.length * (40000 + 1) ≤ 4 * 40001 := Nat.mul_le_mul_right _ (by omega)
  have e2 := join_call (p := p) (F := F + 6) (sep := [32]) hB.sl hne (by omega) (by rw [Rn.joinW_lib];omega)
  rw [Rn.joinW_lib] at e2
  have hlen : lenV lo = some (.int .i64 lf.ops.length) := by
   rcases hlo with ⟨rfl,e⟩ | ⟨rfl,e⟩
   ·rw [e];exact hov.len
   ·rw [e];rfl
  rw [L32_succ]
  simp (disch := first|omega|(simp only [zS];first|done|omega)) [l32_23,r32_6,n1,List.getElem?_cons_zero]
  rw [E32_eq]
  by_cases za : lf.a = 0
  ·have xa : (lf.a != 0) = false := by simp [za]
   by_cases zb : lf.b = 0
   ·have xb : (lf.b != 0) = false := by simp [zb]
    by_cases zc : lf.c = 0
    ·have xc : (lf.c != 0) = false := by simp [zc]
     by_cases zp : lf.place = []
     ·have xp : (ofB lf.place != { data := #[] }) = false := by rw [show ({ data := #[] } : ByteArray) = ofB [] from rfl,ofB_bne];simp [zp]
      by_cases zo : lf.ops = []
      ·have xo : ((lf.ops.length : Int) != 0) = false := by simp [zo]
       have hz : lf = {} := by
        obtain ⟨k,a,b,c,pl,o⟩ := lf
        simp only at za zb zc zp zo hkd
        simp [za,zb,zc,zp,zo,hkd]
       simp (disch := first|omega|(simp only [zS];first|done|omega)) [r32_24,r32_26,g4,stC,xa,xb,xc,xp,hlen,xo,l_blank,e2]
       refine Ans.of ⟨hk,?_⟩
       rw [hres,if_pos hz];rfl
      ·have xo : ((lf.ops.length : Int) != 0) = true := by
        cases hq : lf.ops with
        | nil => exact absurd hq zo
        | cons a l => simp;omega
       simp (disch := first|omega|(simp only [zS];first|done|omega)) [r32_24,r32_25,g4,stC,xa,xb,xc,xp,hlen,xo,e1]
       refine Ans.of ⟨hk,?_⟩
       rw [hres,if_neg (fun q => zo (by rw [q]))];rfl
     ·have xp : (ofB lf.place != { data := #[] }) = true := by rw [show ({ data := #[] } : ByteArray) = ofB [] from rfl,ofB_bne];simp [zp]
      simp (disch := first|omega|(simp only [zS];first|done|omega)) [r32_24,r32_25,g4,stC,xa,xb,xc,xp,e1]
      refine Ans.of ⟨hk,?_⟩
      rw [hres,if_neg (fun q => zp (by rw [q]))];rfl
    ·have xc : (lf.c != 0) = true := by simpa using zc
     simp (disch := first|omega|(simp only [zS];first|done|omega)) [r32_24,r32_25,g4,stC,xa,xb,xc,e1]
     refine Ans.of ⟨hk,?_⟩
     rw [hres,if_neg (fun q => zc (by rw [q]))];rfl
   ·have xb : (lf.b != 0) = true := by simpa using zb
    simp (disch := first|omega|(simp only [zS];first|done|omega)) [r32_24,r32_25,g4,stC,xa,xb,e1]
    refine Ans.of ⟨hk,?_⟩
    rw [hres,if_neg (fun q => zb (by rw [q]))];rfl
  ·have xa : (lf.a != 0) = true := by simpa using za
   simp (disch := first|omega|(simp only [zS];first|done|omega)) [r32_24,r32_25,g4,stC,xa,e1]
   refine Ans.of ⟨hk,?_⟩
   rw [hres,if_neg (fun q => za (by rw [q]))];rfl
 | succ m ih =>
  intro q lf lo acc lv g hm hq hk g1 g4 hkd hlo g19 hB hne hal hwl hres fuel hfu
  obtain ⟨fuel,rfl⟩ : ∃ f',fuel = f' + 1 := ⟨fuel - 1,by omega⟩
  obtain ⟨y,ha⟩ : ∃ y,l[q]? = some y := ⟨_,List.getElem?_eq_getElem (by omega)⟩
  have hq' := (List.getElem?_eq_some_iff.1 ha).1
  have hta : text[q]? = some (arB y) := by rw [ht];simp [ha]
  have n1 := nxS_at g19 hta (arB_lt y)
  rw [drop_at ha] at hres
  have hs1 := lt_of_get g1
  have hs4 := lt_of_get g4
  have hs19 := lt_of_get g19
  have k0 : Kept h0 (g.setIfInBounds B19 (.iter (ofB text) (q + 1))) [] := kept_set hk (by omega)
  have g10 : hget (g.setIfInBounds B19 (.iter (ofB text) (q + 1))) B1 = some (.cells (stC s ov) 0 true []) := by rw [set_other (by omega)];exact g1
  have g40 : hget (g.setIfInBounds B19 (.iter (ofB text) (q + 1))) B4 = some (.cells (stC lf lo) 0 true []) := by rw [set_other (by omega)];exact g4
  have g190 : hget (g.setIfInBounds B19 (.iter (ofB text) (q + 1))) B19 = some (.iter (ofB text) (q + 1)) := by simp (disch := first|omega|(simp only [zS];first|done|omega)) []
  have hB0 : Bld (fun b => B4 < b ∧ b ≠ B19) 1 TxR (g.setIfInBounds B19 (.iter (ofB text) (q + 1))) lv acc := by
   have k : Kept g (g.setIfInBounds B19 (.iter (ofB text) (q + 1))) [B19] := ⟨by simp,fun c hc hn => by rw [set_other (fun e => hn (by simp [e]))]⟩
   exact hB.kept k (by simp) (fun _ _ _ q => q)
  rw [L32_succ]
  simp (disch := first|omega|(simp only [zS];first|done|omega)) [l32_23,r32_6,n1,List.getElem?_cons_zero,List.getElem?_cons_succ,r32_7,r32_8]
  clear n1
  have hs' : (g.setIfInBounds B19 (.iter (ofB text) (q + 1))).size = g.size := by simp
  generalize g.setIfInBounds B19 (.iter (ofB text) (q + 1)) = g' at *
  have e1 := fun g => fail_eq (p := p) (F := F + 6) (h := g)
  have fin : ∀ (t : Bs) (lo' : Value) (cs : List Value) (lv' : Value) (g'' : H),argT s y = some t → cs = stC (clrS lf y) lo' → (lo' = ov ∧ (clrS lf y).ops = s.ops ∨ lo' = .slice none 0 0 ∧ (clrS lf y).ops = []) → Kept h0 g'' [] → hget g'' B1 = hget g' B1 → hget g'' B19 = hget g' B19 → B19 < g''.size → B4 < g''.size → Bld (fun b => B4 < b ∧ b ≠ B19) 1 TxR g'' lv' (acc ++ [t]) →
    Ans (L32 p F fuel [(1,.pointer (some ⟨B1,0,none⟩)),(4,.pointer (some ⟨B4,0,none⟩)),(5,lv'),(19,.pointer (some ⟨B19,0,none⟩))] (g''.setIfInBounds B4 (.cells cs 0 true [])) []) fun w h' => Kept h0 h' [] ∧ w = offT res := by
   intro t lo' cs lv' g'' h1 h3 h3' h4 h5 h5' h7 h8 h6
   refine ih (q + 1) (clrS lf y) lo' (acc ++ [t]) lv' _ (by omega) (by omega) (kept_set h4 (by omega)) ?_ ?_ ?_ h3' ?_ ?_ (by simp) (by simp;omega) ?_ ?_ fuel (by omega)
   ·rw [set_other (by omega),h5];exact g10
   ·rw [h3];simp (disch := first|omega|(simp only [zS];first|done|omega)) []
   ·cases y <;> simp [clrS,hkd]
   ·rw [set_other (by omega),h5'];exact g190
   ·have k : Kept g'' (g''.setIfInBounds B4 (.cells cs 0 true [])) [B4] := ⟨by simp,fun c hc hn => by rw [set_other (fun e => hn (by simp [e]))]⟩
    exact h6.kept k (by simp) (fun _ _ _ q => q)
   ·intro w hw
    rcases List.mem_append.1 hw with q | q
    ·exact hwl w q
    ·simp at q;subst q;exact Rn.arg_len h1
   ·rw [hres,stRes_ok h1]
  have put3 : ∀ (t : Bs) (g3 : H),Kept g' g3 [] → ∃ v' h',appendTo (Ev.newRow g3 [vs t] 1 []) 1 16 lv 1 [vs t] = some (v',h') ∧ Bld (fun b => B4 < b ∧ b ≠ B19) 1 TxR h' v' (acc ++ [t]) ∧ Kept h0 h' [] ∧ hget h' B1 = hget g' B1 ∧ hget h' B19 = hget g' B19 ∧ B19 < h'.size ∧ B4 < h'.size ∧ hget h' B4 = hget g' B4 := by
   intro t g3 k3
   have z3 := k3.1
   obtain ⟨v',h',a1,a2,a3,a4⟩ := word_put (hB0.kept k3 (by simp) (fun _ _ _ q => q)) t (by omega) (by omega)
   have := a3.1
   exact ⟨v',h',a1,a2,kept_of (k0.trans k3) this (fun b hb => a4 b (by have := k0.1;omega) (by omega)),(a4 B1 (by omega) (by omega)).trans (k3.get (by omega) (by simp)),(a4 B19 (by omega) (by simp)).trans (k3.get (by omega) (by simp)),by omega,by omega,(a4 B4 (by omega) (by omega)).trans (k3.get (by omega) (by simp))⟩
  have put := fun t => put3 t g' (Kept.refl _ _)
  have bad : argT s y = none → res = none := fun e => by rw [hres,stRes_bad e]
  have hops' : (lo = ov ∧ lf.ops = s.ops ∨ lo = .slice none 0 0 ∧ lf.ops = []) := hlo
  cases y with
  | a =>
   have e2 := number_eq (p := p) (F := F + 5) (h := g') s.a
   cases hp : numT s.a with
   | some t =>
    simp only [hp,offT] at e2
    obtain ⟨v',h',a1,a2,a3,a4,a5,a6,a7,a8⟩ := put t
    rw [g40] at a8
    simp only [stC] at a8 g10
    simp (disch := first|omega|(simp only [zS];first|done|omega)) [r32_9,r32_10,arB,g10,stC,e2,srcOf,isText,a1,a8,List.getElem?_cons_zero,List.getElem?_cons_succ]
    exact fin t lo _ v' h' (by simp [argT,hp]) rfl hlo a3 a4 a5 a6 a7 a2
   | none =>
    simp only [hp,offT] at e2
    simp only [stC] at g10
    simp (disch := first|omega|(simp only [zS];first|done|omega)) [r32_9,r32_10,arB,g10,stC,e2]
    exact Ans.of ⟨k0,by rw [bad (by simp [argT,hp])];rfl⟩
  | b =>
   have e2 := number_eq (p := p) (F := F + 5) (h := g') s.b
   cases hp : numT s.b with
   | some t =>
    simp only [hp,offT] at e2
    obtain ⟨v',h',a1,a2,a3,a4,a5,a6,a7,a8⟩ := put t
    rw [g40] at a8
    simp only [stC] at a8 g10
    simp (disch := first|omega|(simp only [zS];first|done|omega)) [r32_9,r32_11,r32_12,arB,g10,stC,e2,srcOf,isText,a1,a8,List.getElem?_cons_zero,List.getElem?_cons_succ]
    exact fin t lo _ v' h' (by simp [argT,hp]) rfl hlo a3 a4 a5 a6 a7 a2
   | none =>
    simp only [hp,offT] at e2
    simp only [stC] at g10
    simp (disch := first|omega|(simp only [zS];first|done|omega)) [r32_9,r32_11,r32_12,arB,g10,stC,e2]
    exact Ans.of ⟨k0,by rw [bad (by simp [argT,hp])];rfl⟩
  | c =>
   have e2 := number_eq (p := p) (F := F + 5) (h := g') s.c
   cases hp : numT s.c with
   | some t =>
    simp only [hp,offT] at e2
    obtain ⟨v',h',a1,a2,a3,a4,a5,a6,a7,a8⟩ := put t
    rw [g40] at a8
    simp only [stC] at a8 g10
    simp (disch := first|omega|(simp only [zS];first|done|omega)) [r32_9,r32_11,r32_13,r32_14,arB,g10,stC,e2,srcOf,isText,a1,a8,List.getElem?_cons_zero,List.getElem?_cons_succ]
    exact fin t lo _ v' h' (by simp [argT,hp]) rfl hlo a3 a4 a5 a6 a7 a2
   | none =>
    simp only [hp,offT] at e2
    simp only [stC] at g10
    simp (disch := first|omega|(simp only [zS];first|done|omega)) [r32_9,r32_11,r32_13,r32_14,arB,g10,stC,e2]
    exact Ans.of ⟨k0,by rw [bad (by simp [argT,hp])];rfl⟩
  | p =>
   have e2 := held_eq (p := p) (F := F + 5) (h := g') s.place
   by_cases hp : s.place.length ≤ 256
   ·have e3 := placed_eq (p := p) (F := F + 3) (h := g') s.place (by omega) (by omega)
    simp only [heldT,if_pos hp,offT] at e2
    obtain ⟨v',h',a1,a2,a3,a4,a5,a6,a7,a8⟩ := put (placed s.place)
    rw [g40] at a8
    simp only [stC] at a8 g10
    simp (disch := first|omega|(simp only [zS];first|done|omega)) [r32_9,r32_11,r32_13,r32_15,r32_16,arB,g10,stC,e2,e3,srcOf,isText,a1,a8,List.getElem?_cons_zero,List.getElem?_cons_succ]
    exact fin (placed s.place) lo _ v' h' (by simp [argT,hp]) rfl hlo a3 a4 a5 a6 a7 a2
   ·simp only [heldT,if_neg hp,offT] at e2
    simp only [stC] at g10
    simp (disch := first|omega|(simp only [zS];first|done|omega)) [r32_9,r32_11,r32_13,r32_15,r32_16,arB,g10,stC,e2]
    exact Ans.of ⟨k0,by rw [bad (by simp [argT,hp])];rfl⟩
  | k =>
   obtain ⟨wr,we,wl,wa,gw⟩ := hG.kept k0
   have hw1 := lt_of_get gw
   by_cases hb1' : s.b < 1
   ·simp only [stC] at g10
    simp (disch := first|omega|(simp only [zS];first|done|omega)) [r32_9,r32_11,r32_13,r32_15,r32_17,r32_18,r32_19,arB,g10,stC,hb1',e1]
    exact Ans.of ⟨k0,by rw [bad (by simp only [argT,Go.Rn.kindT];rw [if_neg (by omega),if_neg (by omega),if_neg (by omega)])];rfl⟩
   ·by_cases hb2' : (3 : Int) < s.b
    ·simp only [stC] at g10
     simp (disch := first|omega|(simp only [zS];first|done|omega)) [r32_9,r32_11,r32_13,r32_15,r32_17,r32_18,r32_19,arB,g10,stC,hb1',hb2',e1]
     exact Ans.of ⟨k0,by rw [bad (by simp only [argT,Go.Rn.kindT];rw [if_neg (by omega),if_neg (by omega),if_neg (by omega)])];rfl⟩
    ·have h3 : s.b = 1 ∨ s.b = 2 ∨ s.b = 3 := by omega
     rcases h3 with hb | hb | hb
     ·obtain ⟨v',h',a1,a2,a3,a4,a5,a6,a7,a8⟩ := put w_node
      rw [g40] at a8
      simp only [stC] at a8
      simp only [stC,hb] at g10
      simp (disch := first|omega|(simp only [zS];first|done|omega)) [r32_9,r32_11,r32_13,r32_15,r32_17,r32_18,r32_20,arB,g10,stC,gw,gN,srcOf,isText,a1,a8,List.getElem?_cons_zero,List.getElem?_cons_succ]
      exact fin w_node lo _ v' h' (by simp [argT,Go.Rn.kindT,hb]) rfl hlo a3 a4 a5 a6 a7 a2
     ·obtain ⟨v',h',a1,a2,a3,a4,a5,a6,a7,a8⟩ := put w_kids
      rw [g40] at a8
      simp only [stC] at a8
      simp only [stC,hb] at g10
      simp (disch := first|omega|(simp only [zS];first|done|omega)) [r32_9,r32_11,r32_13,r32_15,r32_17,r32_18,r32_20,arB,g10,stC,gw,gN,srcOf,isText,a1,a8,List.getElem?_cons_zero,List.getElem?_cons_succ]
      exact fin w_kids lo _ v' h' (by simp [argT,Go.Rn.kindT,hb]) rfl hlo a3 a4 a5 a6 a7 a2
     ·obtain ⟨v',h',a1,a2,a3,a4,a5,a6,a7,a8⟩ := put w_subtree
      rw [g40] at a8
      simp only [stC] at a8
      simp only [stC,hb] at g10
      simp (disch := first|omega|(simp only [zS];first|done|omega)) [r32_9,r32_11,r32_13,r32_15,r32_17,r32_18,r32_20,arB,g10,stC,gw,gN,srcOf,isText,a1,a8,List.getElem?_cons_zero,List.getElem?_cons_succ]
      exact fin w_subtree lo _ v' h' (by simp [argT,Go.Rn.kindT,hb]) rfl hlo a3 a4 a5 a6 a7 a2
  | o =>
   have hov2 := hov.kept k0
   have e2 := opsT_spec' (p := p) (F := F) hov2 hF
   have g10' := g10
   simp only [stC] at g10
   simp (disch := first|omega|(simp only [zS];first|done|omega)) [r32_9,r32_11,r32_13,r32_15,r32_17,r32_21,r32_22,arB,g10,stC]
   refine Ans.nextC e2 ?_
   rintro w g3 ⟨k3,rfl⟩
   cases hp : Go.Rn.opsT s.ops with
   | none =>
    simp (disch := first|omega|(simp only [zS];first|done|omega)) [offT]
    exact Ans.of ⟨k0.trans k3,by rw [bad (by simp [argT,hp])]⟩
   | some t =>
    obtain ⟨v',h',a1,a2,a3,a4,a5,a6,a7,a8⟩ := put3 t g3 k3
    rw [g40] at a8
    simp only [stC] at a8
    simp (disch := first|omega|(simp only [zS];first|done|omega)) [offT,srcOf,isText,a1,a8]
    exact fin t (.slice none 0 0) _ v' h' (by simp [argT,hp]) rfl (.inr ⟨rfl,rfl⟩) a3 a4 a5 a6 a7 a2
set_option maxHeartbeats 1000000 in
theorem stT_spec (s : St) (ov : Value) (hov : OvR h ov s.ops) (hG : Wat h) (hF : 300 < F) : Ans (cf p (F + 8) 32 [.agg ⟨stC s ov⟩] h) fun v h' => Kept h h' [] ∧ v = offT (stT s) := by
 rw [cf_step (a := a32) rfl rfl (by simp [a32])]
 have k1 := rowKept h (stC s ov) 0 []
 have k2 := k1.trans (rowKept (Ev.newRow h (stC s ov) 0 []) [vi 0,vs [],vs []] 0 [])
 have b1 : hget (Ev.newRow (Ev.newRow h (stC s ov) 0 []) [vi 0,vs [],vs []] 0 []) h.size = some (.cells (stC s ov) 0 true []) := by simp
 have b3 : hget (Ev.newRow (Ev.newRow h (stC s ov) 0 []) [vi 0,vs [],vs []] 0 []) (h.size + 1) = some (.cells [vi 0,vs [],vs []] 0 true []) := by simp
 have z2 : (Ev.newRow (Ev.newRow h (stC s ov) 0 []) [vi 0,vs [],vs []] 0 []).size = h.size + 2 := by simp
 have eqz : Ev.newRow (Ev.newRow h [vi s.kind,vi s.a,vi s.b,vi s.c,vs s.place,ov] 0 []) [vi 0,vs [],vs []] 0 [] = Ev.newRow (Ev.newRow h (stC s ov) 0 []) [vi 0,vs [],vs []] 0 [] := rfl
 simp (disch := first|omega|(simp only [zS];first|done|omega)) [a32,r32_0,stC,lit_nil,d32_1]
 rw [eqz]
 generalize Ev.newRow (Ev.newRow h (stC s ov) 0 []) [vi 0,vs [],vs []] 0 [] = g2 at *
 refine Ans.nextCD (shapes_spec (p := p) (F := F + 6) (h := g2)) ?_
 rintro w1 g3 ⟨rfl,rfl⟩
 have k3 := rowKept g2 (stepSh.map shC).flatten 3 []
 have hS := shapes_row g2 stepSh 16 rfl
 have b13 := (k3.get (b := h.size) (by omega) (by simp)).trans b1
 have b33 := (k3.get (b := h.size + 1) (by omega) (by simp)).trans b3
 have k03 := k2.trans k3
 have z3 : (Ev.newRow g2 (stepSh.map shC).flatten 3 []).size = h.size + 3 := by simp [z2]
 generalize Ev.newRow g2 (stepSh.map shC).flatten 3 [] = g3 at *
 have e2 := shapeOf_spec (p := p) (F := F + 5) s.kind hS (by show (16 : Nat) < _;omega) (by show (16 : Nat) < _;omega)
 simp (disch := first|omega|(simp only [zS];first|done|omega)) [b13,stC]
 refine Ans.nextCD e2 ?_
 rintro w2 g4 ⟨k4,rfl⟩
 have b14 := (k4.get (b := h.size) (by omega) (by simp)).trans b13
 have b34 := (k4.get (b := h.size + 1) (by omega) (by simp)).trans b33
 have k04 := k03.trans k4
 have z4 := k4.1
 rw [show stepSh = shL arB 1 stepTab from rfl,kind_shL]
 rw [Rn.stT_eq]
 by_cases hk1 : 1 ≤ s.kind
 ·rw [if_pos hk1,if_pos (by omega)]
  have ek : (s.kind - ((1 : Nat) : Int)).toNat = (s.kind - 1).toNat := by omega
  rw [ek]
  cases hq : stepTab[(s.kind - 1).toNat]? with
  | none =>
   simp (disch := first|omega|(simp only [zS];first|done|omega)) [shV,stC,b1,b13,List.getElem?_cons_zero,List.getElem?_cons_succ,dk_go,dk_pan,blanks,chks_nil,chks_cons,chkA_cons,chkA_nil,chk1_yes,hAt_eq,hOf_some,hOf_none,chkV_some,sameV,sameCell]
   exact Ans.of ⟨k04,rfl⟩
  | some q =>
   obtain ⟨w,args⟩ := q
   simp (disch := first|omega|(simp only [zS];first|done|omega)) [shV,shC,b1,b13,b14,b34,stC,List.getElem?_cons_zero,List.getElem?_cons_succ,dk_go,dk_pan,blanks,chks_nil,chks_cons,chkA_cons,chkA_nil,chk1_yes,hAt_eq,hOf_some,hOf_none,chkV_some,sameV,sameCell]
   have z34 := lt_of_get b34
   have k5 : Kept h (g4.setIfInBounds (h.size + 1) (.cells [vi s.kind,vs w,vs (args.map arB)] 0 true [])) [] := kept_set k04 (by omega)
   have b15 : hget (g4.setIfInBounds (h.size + 1) (.cells [vi s.kind,vs w,vs (args.map arB)] 0 true [])) h.size = some (.cells (stC s ov) 0 true []) := by rw [set_other (by omega)];exact b14
   have b35 : hget (g4.setIfInBounds (h.size + 1) (.cells [vi s.kind,vs w,vs (args.map arB)] 0 true [])) (h.size + 1) = some (.cells [vi s.kind,vs w,vs (args.map arB)] 0 true []) := by simp (disch := first|omega|(simp only [zS];first|done|omega)) []
   have z5 : (g4.setIfInBounds (h.size + 1) (.cells [vi s.kind,vs w,vs (args.map arB)] 0 true [])).size = g4.size := by simp
   generalize g4.setIfInBounds (h.size + 1) (.cells [vi s.kind,vs w,vs (args.map arB)] 0 true []) = g5 at *
   have hm := stepTab_len' (List.mem_of_getElem? hq)
   have kA := rowKept g5 (stC { s with kind := 0 } ov) 0 []
   have kB := rowKept (Ev.newRow g5 (stC { s with kind := 0 } ov) 0 []) [vs w] 1 []
   have kC : Kept (Ev.newRow (Ev.newRow g5 (stC { s with kind := 0 } ov) 0 []) [vs w] 1 []) (Array.push (Ev.newRow (Ev.newRow g5 (stC { s with kind := 0 } ov) 0 []) [vs w] 1 []) (.iter (ofB (args.map arB)) 0)) [] := ⟨by simp,fun c hc _ => push_old hc⟩
   have kD := (kA.trans kB).trans kC
   have main := stT_loop (p := p) (F := F) s ov args hm.1 h.size g5.size (g5.size + 2) hF h (Nat.le_refl _) (by omega) (by omega) hG hov (args.map arB) rfl (Rn.stR s (some (w,args))) (args.length - 0) 0 { s with kind := 0 } ov [w]
    (.slice (some ⟨g5.size + 1,0,none⟩) 1 1) (Array.push (Ev.newRow (Ev.newRow g5 (stC { s with kind := 0 } ov) 0 []) [vs w] 1 []) (.iter (ofB (args.map arB)) 0)) rfl (by omega) (k5.trans kD) ((kD.get (by omega) (by simp)).trans b15) (by simp (disch := first|omega|(simp only [zS];first|done|omega)) []) rfl (.inl ⟨rfl,rfl⟩) (by simp (disch := first|omega|(simp only [zS];first|done|omega)) [])
    (.inr ⟨g5.size + 1,[vs w],[],rfl,⟨by omega,by simp⟩,by simp (disch := first|omega|(simp only [zS];first|done|omega)) [],rfl,fun i x hx => by
      cases i with
      | zero => simp at hx;subst hx;rfl
      | succ i => simp at hx⟩) (by simp) (by simp) (by have := hm.2;simp at this ⊢;omega) (by simp [Rn.stR]) (F + 7) (by have := hm.1;simp at this;omega)
   have h1w := hov.one
   unfold oneCell at h1w
   simp (disch := first|omega|(simp only [zS];first|done|omega)) [r32_2,r32_3,r32_4,r32_5,b15,b35,stC,h1w]
   exact main
 ·rw [if_neg hk1,if_neg (by omega)]
  simp (disch := first|omega|(simp only [zS];first|done|omega)) [shV,stC,b1,b13,List.getElem?_cons_zero,List.getElem?_cons_succ,dk_go,dk_pan,blanks,chks_nil,chks_cons,chkA_cons,chkA_nil,chk1_yes,hAt_eq,hOf_some,hOf_none,chkV_some,sameV,sameCell]
  exact Ans.of ⟨k04,rfl⟩
end Go.Proofs.YtnoghchcboiojaaGreatDoor
end
section
set_option maxRecDepth 100000
namespace Go.Proofs.YtnoghchcboiojaaGreatDoor
open Go.Ev
open Go.Rn (Bs)
variable {p : Bool} {F : Nat} {h : H}
theorem op_ne (x y : Rn.Op) : (!x.kind == y.kind || (!ofB x.place == ofB y.place || (!ofB x.data == ofB y.data || (!x.version == y.version || !x.flags == y.flags)))) = !decide (x = y) := by
 obtain ⟨k1,p1,d1,v1,f1⟩ := x
 obtain ⟨k2,p2,d2,v2,f2⟩ := y
 simp only [ofB_beq,Rn.Op.mk.injEq]
 by_cases h1 : k1 = k2
 ·by_cases h2 : p1 = p2
  ·by_cases h3 : d1 = d2
   ·by_cases h4 : v1 = v2
    ·by_cases h5 : f1 = f2 <;> simp [h1,h2,h3,h4,h5]
    ·simp [h1,h2,h3,h4]
   ·simp [h1,h2,h3]
  ·simp [h1,h2]
 ·simp [h1]
theorem ops_eq {ok ok' : Nat → Prop} {v w : Value} {xs ys : List Rn.Op} (hx : SlR ok 5 OpR h v xs) (hy : SlR ok' 5 OpR h w ys) (hF : xs.length < F) (hl : xs.length < 4398046511104) : cf p (F + 1) 27 [v,w] h = some (.bool (decide (xs = ys)),h) := by
 rw [cf_step (a := a27) rfl rfl (by simp [a27])]
 have lx := hx.len
 have ly := hy.len
 by_cases hlen : xs.length = ys.length
 ·have hne : ((xs.length : Int) != ys.length) = false := by simp [hlen]
  apply Ans.to_eq
  simp [a27,r27_0,r27_1,lx,ly,hne,r27_3]
  refine loop_rule (fun m s h' => ∃ i : Nat,i ≤ xs.length ∧ m = xs.length - i ∧ h' = h ∧ s = [(0,v),(1,w),(5,vi i)] ∧ (xs = ys ↔ xs.drop i = ys.drop i))
   ?_ F (xs.length - 0) _ h (by omega) ⟨0,by omega,rfl,rfl,rfl,by simp⟩
  rintro m s h' again ⟨i,hi,rfl,hh,rfl,hq⟩ hag
  subst hh
  by_cases hlt : i < xs.length
  ·obtain ⟨x,hxi⟩ : ∃ x,xs[i]? = some x := ⟨_,List.getElem?_eq_getElem hlt⟩
   obtain ⟨y,hyi⟩ : ∃ y,ys[i]? = some y := ⟨_,List.getElem?_eq_getElem (by omega)⟩
   obtain ⟨b,o,c,cs,es,lv,an,rfl,_,hg,hl1,hr⟩ := hx.at' hxi
   obtain ⟨b',o',c',cs',es',lv',an',rfl,_,hg',hl1',hr'⟩ := hy.at' hyi
   have hr : (cs.drop (o + i * 5)).take 5 = opC x := hr
   have hr' : (cs'.drop (o' + i * 5)).take 5 = opC y := hr'
   have hlt' : (i : Int) < xs.length := by omega
   have hlt2 : (i : Int) < ys.length := by omega
   have hb := op_ne x y
   have w0 : IntKind.i64.wrap ((i : Int) + 1) = (i : Int) + 1 := wrap_in (by omega) (by omega)
   have hd1 : xs.drop i = x :: xs.drop (i + 1) := drop_at hxi
   have hd2 : ys.drop i = y :: ys.drop (i + 1) := drop_at hyi
   rw [hd1,hd2] at hq
   by_cases hxy : x = y
   ·have hb1 : (!decide (x = y)) = false := by simp [hxy]
    rw [hb1] at hb
    simp (disch := first|omega|(simp only [zS];first|done|omega)) [l27_8,r27_4,hlt',d27_5,hlt2,hg,hl1,hr,hg',hl1',hr',opC,hb,r27_7,w0]
    exact hag (xs.length - (i + 1)) [(0,_),(1,_),(5,vi ((i : Int) + 1))] _ (by omega) ⟨i + 1,by omega,rfl,rfl,by simp,by rw [hq];simp [hxy]⟩
   ·have hb1 : (!decide (x = y)) = true := by simp [hxy]
    rw [hb1] at hb
    simp (disch := first|omega|(simp only [zS];first|done|omega)) [l27_8,r27_4,hlt',d27_5,hlt2,hg,hl1,hr,hg',hl1',hr',opC,hb,r27_6]
    refine Ans.of ⟨?_,rfl⟩
    have : ¬ xs = ys := fun e => by
     have := hq.1 e
     simp [hxy] at this
    simp [this]
  ·have : i = xs.length := by omega
   subst this
   have hxy : xs = ys := by
    rw [hq,List.drop_eq_nil_iff.2 (Nat.le_refl _),List.drop_eq_nil_iff.2 (by omega)]
   simp (disch := first|omega|(simp only [zS];first|done|omega)) [l27_8,r27_4,lx,r27_9]
   exact Ans.of ⟨by simp [hxy],rfl⟩
 ·have hne : ((xs.length : Int) != ys.length) = true := by simp;omega
  have : ¬ xs = ys := fun e => hlen (by rw [e])
  simp [a27,r27_0,r27_1,lx,ly,hne,r27_2,this]
end Go.Proofs.YtnoghchcboiojaaGreatDoor
end
section
set_option maxRecDepth 100000
namespace Go.Proofs.YtnoghchcboiojaaGreatDoor
open Go.Ev
open Go.Rn (Bs St)
variable {p : Bool} {F : Nat} {h : H}
def StE (h : H) (cs : List Value) (s : St) : Prop := ∃ (ov : Value) (ok : Nat → Prop),cs = stC s ov ∧ SlR ok 5 OpR h ov s.ops
set_option maxHeartbeats 1000000 in
theorem steps_eq {ok ok' : Nat → Prop} {v w : Value} {xs ys : List St} (hx : SlR ok 6 StE h v xs) (hy : SlR ok' 6 StE h w ys) (hF : xs.length < F) (hl : xs.length < 4398046511104) (hops : ∀ s ∈ xs,s.ops.length < F ∧ s.ops.length < 4398046511104) :
  cf p (F + 2) 12 [v,w] h = some (.bool (decide (xs = ys)),h) := by
 rw [cf_step (a := a12) rfl rfl (by simp [a12])]
 have lx := hx.len
 have ly := hy.len
 by_cases hlen : xs.length = ys.length
 ·have hne : ((xs.length : Int) != ys.length) = false := by simp [hlen]
  apply Ans.to_eq
  simp [a12,r12_0,r12_1,lx,ly,hne,r12_3]
  refine loop_rule (fun m s h' => ∃ i : Nat,i ≤ xs.length ∧ m = xs.length - i ∧ h' = h ∧ s = [(0,v),(1,w),(5,vi i)] ∧ (xs = ys ↔ xs.drop i = ys.drop i))
   ?_ (F + 1) (xs.length - 0) _ h (by omega) ⟨0,by omega,rfl,rfl,rfl,by simp⟩
  rintro m s h' again ⟨i,hi,rfl,hh,rfl,hq⟩ hag
  subst hh
  by_cases hlt : i < xs.length
  ·obtain ⟨x,hxi⟩ : ∃ x,xs[i]? = some x := ⟨_,List.getElem?_eq_getElem hlt⟩
   obtain ⟨y,hyi⟩ : ∃ y,ys[i]? = some y := ⟨_,List.getElem?_eq_getElem (by omega)⟩
   obtain ⟨b,o,c,cs,es,lv,an,rfl,_,hg,hl1,ov,okx,hr,hox⟩ := hx.at' hxi
   obtain ⟨b',o',c',cs',es',lv',an',rfl,_,hg',hl1',ov',oky,hr',hoy⟩ := hy.at' hyi
   have hlt' : (i : Int) < xs.length := by omega
   have hlt2 : (i : Int) < ys.length := by omega
   have w0 : IntKind.i64.wrap ((i : Int) + 1) = (i : Int) + 1 := wrap_in (by omega) (by omega)
   have hd1 : xs.drop i = x :: xs.drop (i + 1) := drop_at hxi
   have hd2 : ys.drop i = y :: ys.drop (i + 1) := drop_at hyi
   have hob := hops x (List.mem_of_getElem? hxi)
   have e1 := ops_eq (p := p) hox hoy hob.1 hob.2
   rw [hd1,hd2] at hq
   have fld : ∀ {cs : List Value} {q k : Nat} {s : St} {u : Value} {z : Value},(cs.drop q).take 6 = stC s u → (stC s u)[k]? = some z → (cs.drop (q + k)).take 1 = [z] := by
    intro cs q k s u z e hz
    rw [← e,List.getElem?_take,List.getElem?_drop] at hz
    split at hz
    ·have hlt := (List.getElem?_eq_some_iff.1 hz).1
     have e2 := (List.getElem?_eq_some_iff.1 hz).2
     rw [List.drop_eq_getElem_cons hlt,e2];rfl
    ·cases hz
   have a0 := fld (k := 0) hr rfl
   have a1 := fld (k := 1) hr rfl
   have a2 := fld (k := 2) hr rfl
   have a3 := fld (k := 3) hr rfl
   have a4 := fld (k := 4) hr rfl
   have a5 := fld (k := 5) hr rfl
   have b0 := fld (k := 0) hr' rfl
   have b1 := fld (k := 1) hr' rfl
   have b2 := fld (k := 2) hr' rfl
   have b3 := fld (k := 3) hr' rfl
   have b4 := fld (k := 4) hr' rfl
   have b5 := fld (k := 5) hr' rfl
   rw [Nat.add_zero] at a0 b0
   have hz0 : o + i * 6 + 1 ≤ cs.length := by omega
   have hz1 : o + i * 6 + 1 + 1 ≤ cs.length := by omega
   have hz2 : o + i * 6 + 2 + 1 ≤ cs.length := by omega
   have hz3 : o + i * 6 + 3 + 1 ≤ cs.length := by omega
   have hz4 : o + i * 6 + 4 + 1 ≤ cs.length := by omega
   have hz5 : o + i * 6 + 5 + 1 ≤ cs.length := by omega
   have hw0 : o' + i * 6 + 1 ≤ cs'.length := by omega
   have hw1 : o' + i * 6 + 1 + 1 ≤ cs'.length := by omega
   have hw2 : o' + i * 6 + 2 + 1 ≤ cs'.length := by omega
   have hw3 : o' + i * 6 + 3 + 1 ≤ cs'.length := by omega
   have hw4 : o' + i * 6 + 4 + 1 ≤ cs'.length := by omega
   have hw5 : o' + i * 6 + 5 + 1 ≤ cs'.length := by omega
   have no : ¬ x = y → (decide (xs = ys)) = false := fun hxy => by
    have : ¬ xs = ys := fun e => by
     have := hq.1 e
     simp [hxy] at this
    simp [this]
   by_cases c0 : x.kind = y.kind
   ·have d0 : (x.kind != y.kind) = false := by simp [c0]
    by_cases c1 : x.a = y.a
    ·have d1 : (x.a != y.a) = false := by simp [c1]
     by_cases c2 : x.b = y.b
     ·have d2 : (x.b != y.b) = false := by simp [c2]
      by_cases c3 : x.c = y.c
      ·have d3 : (x.c != y.c) = false := by simp [c3]
       by_cases c4 : x.place = y.place
       ·by_cases c5 : x.ops = y.ops
        ·have hxy : x = y := by
          cases x;cases y
          simp only at c0 c1 c2 c3 c4 c5
          simp [c0,c1,c2,c3,c4,c5]
         have e5 : decide (x.ops = y.ops) = true := by simp [c5]
         rw [e5] at e1
         simp (disch := first|omega|(simp only [zS];first|done|omega)) [l12_8,r12_4,hlt',d12_5,hlt2,hg,hg',hz0,hz1,hz2,hz3,hz4,hz5,hw0,hw1,hw2,hw3,hw4,hw5,a0,a1,a2,a3,a4,a5,b0,b1,b2,b3,b4,b5,ofB_bne,d0,d1,d2,d3,c4,e1,r12_7,w0]
         exact hag (xs.length - (i + 1)) [(0,_),(1,_),(5,vi ((i : Int) + 1))] _ (by omega) ⟨i + 1,by omega,rfl,rfl,by simp,by rw [hq];simp [hxy]⟩
        ·have e5 : decide (x.ops = y.ops) = false := by simp [c5]
         rw [e5] at e1
         simp (disch := first|omega|(simp only [zS];first|done|omega)) [l12_8,r12_4,hlt',d12_5,hlt2,hg,hg',hz0,hz1,hz2,hz3,hz4,hz5,hw0,hw1,hw2,hw3,hw4,hw5,a0,a1,a2,a3,a4,a5,b0,b1,b2,b3,b4,b5,ofB_bne,d0,d1,d2,d3,c4,e1,r12_6]
         exact Ans.of ⟨by rw [no (fun e => c5 (by rw [e]))],rfl⟩
       ·simp (disch := first|omega|(simp only [zS];first|done|omega)) [l12_8,r12_4,hlt',d12_5,hlt2,hg,hg',hz0,hz1,hz2,hz3,hz4,hz5,hw0,hw1,hw2,hw3,hw4,hw5,a0,a1,a2,a3,a4,a5,b0,b1,b2,b3,b4,b5,ofB_bne,d0,d1,d2,d3,c4,r12_6]
        exact Ans.of ⟨by rw [no (fun e => c4 (by rw [e]))],rfl⟩
      ·have d3 : (x.c != y.c) = true := by simpa using c3
       simp (disch := first|omega|(simp only [zS];first|done|omega)) [l12_8,r12_4,hlt',d12_5,hlt2,hg,hg',hz0,hz1,hz2,hz3,hz4,hz5,hw0,hw1,hw2,hw3,hw4,hw5,a0,a1,a2,a3,a4,a5,b0,b1,b2,b3,b4,b5,ofB_bne,d0,d1,d2,d3,r12_6]
       exact Ans.of ⟨by rw [no (fun e => c3 (by rw [e]))],rfl⟩
     ·have d2 : (x.b != y.b) = true := by simpa using c2
      simp (disch := first|omega|(simp only [zS];first|done|omega)) [l12_8,r12_4,hlt',d12_5,hlt2,hg,hg',hz0,hz1,hz2,hz3,hz4,hz5,hw0,hw1,hw2,hw3,hw4,hw5,a0,a1,a2,a3,a4,a5,b0,b1,b2,b3,b4,b5,ofB_bne,d0,d1,d2,r12_6]
      exact Ans.of ⟨by rw [no (fun e => c2 (by rw [e]))],rfl⟩
    ·have d1 : (x.a != y.a) = true := by simpa using c1
     simp (disch := first|omega|(simp only [zS];first|done|omega)) [l12_8,r12_4,hlt',d12_5,hlt2,hg,hg',hz0,hz1,hz2,hz3,hz4,hz5,hw0,hw1,hw2,hw3,hw4,hw5,a0,a1,a2,a3,a4,a5,b0,b1,b2,b3,b4,b5,ofB_bne,d0,d1,r12_6]
     exact Ans.of ⟨by rw [no (fun e => c1 (by rw [e]))],rfl⟩
   ·have d0 : (x.kind != y.kind) = true := by simpa using c0
    simp (disch := first|omega|(simp only [zS];first|done|omega)) [l12_8,r12_4,hlt',d12_5,hlt2,hg,hg',hz0,hz1,hz2,hz3,hz4,hz5,hw0,hw1,hw2,hw3,hw4,hw5,a0,a1,a2,a3,a4,a5,b0,b1,b2,b3,b4,b5,ofB_bne,d0,r12_6]
    exact Ans.of ⟨by rw [no (fun e => c0 (by rw [e]))],rfl⟩
  ·have : i = xs.length := by omega
   subst this
   have hxy : xs = ys := by
    rw [hq,List.drop_eq_nil_iff.2 (Nat.le_refl _),List.drop_eq_nil_iff.2 (by omega)]
   simp (disch := first|omega|(simp only [zS];first|done|omega)) [l12_8,r12_4,lx,r12_9]
   exact Ans.of ⟨by simp [hxy],rfl⟩
 ·have hne : ((xs.length : Int) != ys.length) = true := by simp;omega
  have : ¬ xs = ys := fun e => hlen (by rw [e])
  simp [a12,r12_0,r12_1,lx,ly,hne,r12_2,this]
end Go.Proofs.YtnoghchcboiojaaGreatDoor
end
section
set_option maxRecDepth 100000
namespace Go.Proofs.YtnoghchcboiojaaGreatDoor
open Go.Ev
open Go.Rn (Bs St)
variable {p : Bool} {F : Nat} {h : H}
theorem SlR.map {α β : Type} {ok : Nat → Prop} {w : Nat} {R : H → List Value → α → Prop} {R' : H → List Value → β → Prop} {v : Value} {xs : List α} (f : α → β) (s : SlR ok w R h v xs) (hR : ∀ cs,∀ x ∈ xs,R h cs x → R' h cs (f x)) : SlR ok w R' h v (xs.map f) := by
 rcases s with ⟨e,rfl⟩ | ⟨b,o,c,cs,e,hc,hk,hb,hi⟩
 ·exact .inl ⟨e,rfl⟩
 ·refine .inr ⟨b,o,c,cs,by rw [e,List.length_map],by rw [List.length_map];exact hc,hk,hb,fun i y hy => ?_⟩
  rw [List.getElem?_map] at hy
  obtain ⟨x,hx,rfl⟩ := Option.map_eq_some_iff.1 hy
  exact ⟨(hi i x hx).1,hR _ _ (List.mem_of_getElem? hx) (hi i x hx).2⟩
theorem StepsAt.steps {lo : Nat} {sv : Value} {xs : List Stp} (s : StepsAt lo h sv xs) : SlR (okS lo xs) 6 StE h sv (xs.map fun x => x.1) :=
 SlR.map _ s.1.sl fun cs x _ q => by
  obtain ⟨ov,e,b⟩ := q
  exact ⟨ov,_,e,b.sl⟩
end Go.Proofs.YtnoghchcboiojaaGreatDoor
end
section
set_option maxRecDepth 100000
namespace Go.Proofs.YtnoghchcboiojaaGreatDoor
open Go.Ev
open Go.Rn (Bs Tok Ru St PRes)
variable {p : Bool} {F : Nat} {h : H}
theorem decSt_e {h : H} {cs : List Value} {s : St} (e : StE h cs s) : decSt h cs = some s := by
 obtain ⟨ov,ok,rfl,hs⟩ := e
 exact decSt_of (ok := ok) ⟨ov,rfl,hs⟩
theorem Glo.watB (g : Glo h) : watB h = true := by
 unfold Go.Proofs.YtnoghchcboiojaaGreatDoor.watB
 rw [g.watches]
 simp
theorem print_call {ok : Nat → Prop} {v : Value} {l : List St} {r : Ru} (hG : Glo h) (s : SlR ok 6 StE h v l) : cf true (F + 1) 14 [.agg ⟨ruC r⟩,v] h = some (printV (Go.Rn.print r l),h) := by
 rw [cf_X rfl]
 unfold xPrint
 simp only [hG.watB,if_true,decRu_of,decS_of s fun cs x _ e => decSt_e e]
theorem lit_run : strLc90d63ea = ofB [115,99,114,105,112,116,32,101,114,114,111,114,32] ∧ str32_97_116_32 = ofB [32,97,116,32] ∧ str120 = ofB [120] ∧ strL14e8ae08 = ofB [115,99,114,105,112,116,32,101,114,114,111,114,32,49,56,48,32,97,116,32,49,10] ∧ strL1445127d = ofB Rn.fixT ∧ strL61755ec5 = ofB (Rn.fixT ++ [10]) := ⟨rfl,rfl,rfl,rfl,rfl,rfl⟩
theorem itoa_180 : Lib.itoa 180 = [49,56,48] := by decide +kernel
theorem itoa_1 : Lib.itoa 1 = [49] := by decide +kernel
theorem run_bad (hG : Glo h) (h14 : 14 ≤ h.size) (hF : 4398046511200 < F) : Ans (cf p (F + 10) 26 [vs [120]] h) fun v h' => Kept h h' [] ∧ v = vs [115,99,114,105,112,116,32,101,114,114,111,114,32,49,56,48,32,97,116,32,49,10] := by
 rw [cf_step (a := a26) rfl rfl (by simp [a26])]
 have e1 := parse_spec (p := p) (F := F) [120] hG h14 hF
 rw [Rn.x_parse] at e1
 have e2 : ∀ h : H,∀ n : Int,-9223372036854775808 ≤ n → n ≤ 9223372036854775807 → cf p (F + 9) 55 [vi n] h = some (vs (Lib.itoa n),h) := fun h n h1 h2 => itoa_call (p := p) (F := F + 8) (h := h) n h1 h2
 generalize cf p (F + 9) = c at *
 simp [a26,r26_0,r26_1]
 refine Ans.next e1 ?_
 rintro w h1 ⟨k1,rfl⟩
 have k2 := k1.trans (rowKept h1 zer 0 [])
 simp (disch := first|omega|(simp only [zS];first|done|omega)) [bB,errV,r26_2,r26_3,lit_run,lit_ten,e2,itoa_180,itoa_1,ofB_app,zer]
 exact Ans.of ⟨k2,rfl⟩
end Go.Proofs.YtnoghchcboiojaaGreatDoor
end
section
set_option maxRecDepth 100000
namespace Go.Proofs.YtnoghchcboiojaaGreatDoor
open Go.Ev
open Go.Rn (Bs Tok Ru St PRes)
variable {p : Bool} {F : Nat} {h : H}
theorem fix_ru : ruC Rn.fixR = [vi 2,vi 1,vi 4,vi 16,vi 2,vi 0] := rfl
theorem fld_of {cs : List Value} {q k : Nat} {s : St} {u z : Value} (e : (cs.drop q).take 6 = stC s u) (hz : (stC s u)[k]? = some z) : (cs.drop (q + k)).take 1 = [z] := by
 rw [← e,List.getElem?_take,List.getElem?_drop] at hz
 split at hz
 ·have hlt := (List.getElem?_eq_some_iff.1 hz).1
  have e2 := (List.getElem?_eq_some_iff.1 hz).2
  rw [List.drop_eq_getElem_cons hlt,e2];rfl
 ·cases hz
theorem fixed_spec (hG : Glo h) (h14 : 14 ≤ h.size) (hF : 4398046511200 < F) : Ans (cf true (F + 11) 11 [] h) fun v h' => Kept h h' [] ∧ v = .bool true := by
 rw [cf_step (a := a11) rfl rfl (by simp [a11])]
 have q1 : F + 1 + 9 = F + 10 := by omega
 have q2 : F + 9 + 1 = F + 10 := by omega
 have e1 := parse_spec (p := true) (F := F + 1) Rn.fixT hG h14 (by omega)
 rw [Rn.fix_parse,q1] at e1
 have e2 := fun (h1 : H) (k : Kept h h1 []) => run_bad (p := true) (h := h1) (F := F) (hG.kept0 k) (Nat.le_trans h14 k.1) hF
 have e3 := fun (h1 : H) (k : Kept h h1 []) (ok : Nat → Prop) (v : Value) (l : List St) (r : Ru) => print_call (F := F + 9) (ok := ok) (v := v) (l := l) (r := r) (hG.kept0 k)
 rw [q2] at e3
 generalize cf true (F + 10) = c at *
 simp [a11,r11_0,r11_1,lit_run]
 refine Ans.next e1 ?_
 rintro w h1 ⟨k1,sv,xs,hxs,hxl,rfl,hS⟩
 have k2 := k1.trans (rowKept h1 (ruC Rn.fixR) 0 [])
 have hS2 := hS.kept (rowKept h1 (ruC Rn.fixR) 0 []) (by simp)
 have hs := hS2.steps
 rw [← hxs] at hs
 obtain ⟨b,o,n,cs,es,lv,an,hv,_,hg,hl1,ov,okx,hr,hox⟩ := hs.at' (i := 0) (x := Rn.fixS) rfl
 have e4 := e3 _ k2 _ _ _ Rn.fixR hs
 rw [Rn.fix_print] at e4
 have z0 := fld_of (k := 0) hr rfl
 have z1 := fld_of (k := 1) hr rfl
 simp only [List.length_cons,List.length_nil,Nat.zero_add] at hv
 have hA : hget (Ev.newRow h1 (ruC Rn.fixR) 0 []) h1.size = some (.cells (ruC Rn.fixR) 0 true []) := by simp
 have ho0 : o + 0 * 6 + 0 = o := by omega
 have ho1 : o + 0 * 6 + 1 = o + 1 := by omega
 rw [ho0] at z0
 rw [ho1] at z1
 have hc0 : o + 1 ≤ cs.length := by omega
 have hc1 : o + 1 + 1 ≤ cs.length := by omega
 have e5 := e2 _ k2
 subst hv
 rw [fix_ru] at *
 simp only [printV] at e4
 simp (disch := first|omega|(simp only [zS];first|done|omega)) [bB,r11_2]
 generalize Ev.newRow h1 [vi 2,vi 1,vi 4,vi 16,vi 2,vi 0] 0 [] = h2 at *
 have z0 : (cs.drop o).take 1 = [vi 5] := z0
 have z1 : (cs.drop (o + 1)).take 1 = [vi 1] := z1
 simp (disch := first|omega|(simp only [zS];first|done|omega)) [bB,hg,hc0,hc1,z0,z1,r11_4,hA,e4,r11_5,lit_run]
 refine Ans.next e5 ?_
 rintro w h3 ⟨k3,rfl⟩
 simp (disch := first|omega|(simp only [zS];first|done|omega)) [bB,ofB_beq]
 exact Ans.of ⟨k2.trans k3,rfl⟩
theorem ru_eq (r : Ru) : cellsEq [.int,.int,.int,.int,.int,.int] (ruC r) (ruC r) = some true := by
 simp [ruC,cellsEq,cellEq]
end Go.Proofs.YtnoghchcboiojaaGreatDoor
end
section
set_option maxRecDepth 100000
namespace Go.Proofs
open Go.Ev Go.RowKit
namespace YtnoghchcboiojaaGreatDoor
open Go.Rn (Bs Ru St numT stT)
theorem abs_calls {f : FuncId} {F : Nat} {w : World} {args : List Value} {r : Option Bs} {Q : Value → H → Prop} (hg : Vars w) (e : Ans (cf false F f (args.map (absA w.heap.size)) (absH w)) Q) (hQ : ∀ v h',Q v h' → v = offT r) :
  Calls Tryz.prog f ⟨args⟩ w fun e w' => e = endT r ∧ Old w.heap.size w w' := by
 obtain ⟨v,h',e,q⟩ := e
 have hv0 := hQ v h' q
 subst hv0
 obtain ⟨_,h2⟩ := cf_ok0 F _ _ _ _ _ e
 refine (h2 (ren0 w.heap.size) w args (absH_rel w hg) (absA_rels _ _)).mono ?_
 have old : ∀ {ρ' : Ev.Ren} {w' : World},Ext (ren0 w.heap.size) (absH w) w ρ' h' w' → Old w.heap.size w w' := fun hx => ⟨hx.io.1,hx.io.2,hx.wsz,fun k hk => old_kept hx hk⟩
 rintro e w' (⟨hp,v',ρ',rfl,hv,hr,hx⟩ | ⟨x,x',ρ',hp,rfl,hv,hr,hx⟩)
 ·refine ⟨?_,old hx⟩
  cases r with
  | none => simp [offT] at hp
  | some t =>
   cases hv
   rfl
 ·refine ⟨?_,old hx⟩
  cases r with
  | none =>
   simp only [offT,off,pv] at hp
   cases hp
   cases hv with
   | iface _ h1 =>
    cases h1 with
    | agg hc => cases hc;rfl
  | some t => simp [offT,pv] at hp
theorem num_k (n : Int) (w : World) (hg : Vars w) : Calls Tryz.prog 31 #[.int .i64 n] w fun e w' => e = endT (numT n) ∧ Old w.heap.size w w' :=
 abs_calls (F := 2) (args := [.int .i64 n]) (Q := fun v h' => v = offT (numT n)) hg ⟨_,_,number_eq (p := false) (F := 0) n,rfl⟩ fun _ _ q => q
theorem watW_abs {w : World} (h : WatW w) : Wat (absH w) := by
 obtain ⟨arr,t,fr,rest,h1,h2⟩ := h
 refine ⟨rest.map (absV w.heap.size),0,false,[],?_⟩
 show (w.heap.map (absB w.heap.size))[1]? = _
 rw [Array.getElem?_map,h1]
 simp [absB,h2,absV]
theorem opC_abs (N : Nat) (o : Rn.Op) : (opC o).map (absV N) = opC o := rfl
theorem absV_slice {N b o n c : Nat} (hb : b < N) (hn : n ≤ c) (hc : c ≠ 0) : absV N (.slice (some ⟨b,o,none⟩) n c) = .slice (some ⟨b,o,none⟩) n c := by
 cases n with
 | zero =>
  cases c with
  | zero => exact absurd rfl hc
  | succ c => simp [absV,hb]
 | succ n => simp [absV,hb,hn]
theorem cel_abs {w : World} {b : Nat} {arr : Array Value} {t : TypeId} {fr : Nat × Nat} (h : w.heap[b]? = some (.cells arr t fr)) : cel (absH w) b = some (arr.toList.map (absV w.heap.size)) := by
 refine cel_of (es := 0) (lv := false) (an := []) ?_
 show (w.heap.map (absB w.heap.size))[b]? = _
 rw [Array.getElem?_map,h];rfl
theorem row_abs {w : World} {b f k : Nat} {cs : List Value} (hk : 0 < k) (hl : cs.length = k) (h : ∀ j x,cs[j]? = some x → w.cell? ⟨b,f + j,none⟩ = some x) : ∃ bs,cel (absH w) b = some bs ∧ f + k ≤ bs.length ∧ (bs.drop f).take k = cs.map (absV w.heap.size) := by
 obtain ⟨x0,hx0⟩ : ∃ x,cs[0]? = some x := ⟨_,List.getElem?_eq_getElem (by omega)⟩
 have h0 := h 0 x0 hx0
 have hblk : ∃ arr t fr,w.heap[b]? = some (.cells arr t fr) := by
  unfold World.cell? at h0
  split at h0
  ·rename_i c T fr hc;exact ⟨c,T,fr,hc⟩
  ·cases h0
 obtain ⟨arr,t,fr,hb⟩ := hblk
 have hcell : ∀ j x,cs[j]? = some x → arr.toList[f + j]? = some x := by
  intro j x hx
  have := h j x hx
  simp only [World.cell?,hb] at this
  simpa using this
 have hlen : f + k ≤ arr.toList.length := by
  obtain ⟨x1,hx1⟩ : ∃ x,cs[k - 1]? = some x := ⟨_,List.getElem?_eq_getElem (by omega)⟩
  have := (List.getElem?_eq_some_iff.1 (hcell _ x1 hx1)).1
  omega
 refine ⟨_,cel_abs hb,by simpa using hlen,?_⟩
 apply List.ext_getElem?
 intro j
 by_cases hj : j < k
 ·obtain ⟨x,hx⟩ : ∃ x,cs[j]? = some x := ⟨_,List.getElem?_eq_getElem (by omega)⟩
  rw [List.getElem?_take,if_pos hj,List.getElem?_drop,List.getElem?_map,List.getElem?_map,hx,hcell j x hx]
 ·rw [List.getElem?_take,if_neg hj,List.getElem?_map,List.getElem?_eq_none (by omega)];rfl
theorem opsW_abs {w : World} {v : Value} {l : List Rn.Op} (h : OpsW w v l) : OvR (absH w) (absV w.heap.size v) l := by
 obtain ⟨a,c,rfl,hlc,hn,hel⟩ := h
 by_cases hc : c = 0
 ·subst hc
  have : l = [] := List.length_eq_zero_iff.1 (by omega)
  subst this
  refine .inl ⟨fun _ => True,.inl ⟨?_,rfl⟩⟩
  cases a with
  | none => exact .inl rfl
  | some a => exact .inr rfl
 ·obtain ⟨b,o,rfl,hb⟩ := hn hc
  rw [absV_slice hb hlc hc]
  cases l with
  | nil => exact .inr ⟨rfl,b,o,c,rfl⟩
  | cons x l =>
   have row : ∀ i y,(x :: l)[i]? = some y → ∃ bs,cel (absH w) b = some bs ∧ (o + i * 5) + 5 ≤ bs.length ∧ (bs.drop (o + i * 5)).take 5 = opC y := by
    intro i y hy
    obtain ⟨b',f',e,_,h3⟩ := hel i y hy
    cases e
    obtain ⟨bs,e1,e2,e3⟩ := row_abs (k := 5) (cs := opC y) (by decide) rfl h3
    exact ⟨bs,e1,e2,e3⟩
   obtain ⟨bs,hbs,_,_⟩ := row 0 x rfl
   refine .inl ⟨fun _ => True,.inr ⟨b,o,c,bs,rfl,hlc,trivial,hbs,fun i y hy => ?_⟩⟩
   obtain ⟨bs',e1,e2,e3⟩ := row i y hy
   rw [hbs] at e1
   cases e1
   exact ⟨e2,e3⟩
theorem step_k (s : St) (ov : Value) (w : World) (hg : Vars w) (hgw : WatW w) (ho : OpsW w ov s.ops) :
  Calls Tryz.prog 32 #[.agg #[.int .i64 s.kind,.int .i64 s.a,.int .i64 s.b,.int .i64 s.c,.string (ofB s.place),ov]] w fun e w' => e = endT (stT s) ∧ Old w.heap.size w w' := by
 have e := stT_spec (p := false) (F := 301) (h := absH w) s (absV w.heap.size ov) (opsW_abs ho) (watW_abs hgw) (by omega)
 exact abs_calls (F := 309) (args := [.agg #[.int .i64 s.kind,.int .i64 s.a,.int .i64 s.b,.int .i64 s.c,.string (ofB s.place),ov]]) hg e fun v h' q => q.2
theorem decL_inv {α : Type} {w : Nat} {dec : List Value → Option α} {cs : List Value} {o : Nat} : ∀ {n i : Nat} {xs : List α},decL w dec cs o i n = some xs → xs.length = n ∧
  ∀ (j : Nat) (x : α),xs[j]? = some x → o + (i + j) * w + w ≤ cs.length ∧ dec ((cs.drop (o + (i + j) * w)).take w) = some x
 | 0,i,xs,h => by simp [decL] at h;subst h;simp
 | n + 1,i,xs,h => by
  unfold decL at h
  split at h
  ·rename_i hb
   split at h
   ·rename_i x l h1 h2
    cases h
    obtain ⟨g1,g2⟩ := decL_inv h2
    refine ⟨by simp [g1],fun j y hy => ?_⟩
    cases j with
    | zero => simp at hy;subst hy;exact ⟨hb,h1⟩
    | succ j =>
     have := g2 j y (by simpa using hy)
     rw [show i + 1 + j = i + (j + 1) by omega] at this
     exact this
   ·cases h
  ·cases h
theorem decS_real {ρ : Ev.Ren} {h : H} {w : World} (r : Rel ρ h w) {α : Type} {k : Nat} {dec : List Value → Option α} {v v' : Value} (hv : VR ρ v v') {xs : List α} (e : decS k dec h v = some xs) :
  ∃ a c,v' = .slice a xs.length c ∧ xs.length ≤ c ∧ (c ≠ 0 → ∃ b o,a = some ⟨b,o,none⟩ ∧ b < w.heap.size) ∧ ∀ i x,xs[i]? = some x → ∃ b f cs cs',a = some ⟨b,f,none⟩ ∧ b < w.heap.size ∧ dec cs = some x ∧ VRs ρ cs cs' ∧
   ∀ j y,cs'[j]? = some y → w.cell? ⟨b,f + i * k + j,none⟩ = some y := by
 unfold decS at e
 split at e
 ·cases e
  cases hv
  exact ⟨none,0,rfl,Nat.le_refl _,fun h => absurd rfl h,fun i x hx => by simp at hx⟩
 ·cases e
  cases hv
  exact ⟨_,0,rfl,Nat.le_refl _,fun h => absurd rfl h,fun i x hx => by simp at hx⟩
 ·rename_i b o n c
  split at e
  ·rename_i hn
   split at e
   ·rename_i cs hc
    obtain ⟨hl,hi⟩ := decL_inv e
    cases hv with
    | slice hb hnc hcc hroom ho =>
     rename_i o' c' i
     have hbb := r.bnd _ _ hb
     subst hl
     refine ⟨_,c',rfl,by omega,fun _ => ⟨_,_,rfl,hbb⟩,fun j x hx => ?_⟩
     obtain ⟨e1,e2⟩ := hi j x hx
     rw [Nat.zero_add] at e1 e2
     have hpos : 0 < xs.length := by have := (List.getElem?_eq_some_iff.1 hx).1;omega
     have ho' : o' = o + i.sh := by
      rcases ho with ho | ho
      ·exact ho
      ·omega
     subst ho'
     have hrd : rd h b (o + j * k) k = some ((cs.drop (o + j * k)).take k) := by
      obtain ⟨es,lv,an,hg⟩ := cel_inv hc
      have hg' : h[b]? = some (.cells cs es lv an) := hg
      unfold rd
      rw [hg']
      simp only [if_pos e1]
     obtain ⟨_,l',g2,g3⟩ := rd_rel r hb hrd
     refine ⟨_,_,_,l',rfl,hbb,e2,g2,fun q y hy => ?_⟩
     have := g3 q y hy
     rw [show o + i.sh + j * k + q = o + j * k + i.sh + q by omega]
     exact this
   ·cases e
  ·cases e
 ·cases e
theorem decOp_inv {cs : List Value} {o : Rn.Op} (e : decOp cs = some o) : cs = opC o := by
 unfold decOp at e
 split at e
 ·cases e;rfl
 ·cases e
theorem vrs_plain {ρ : Ev.Ren} : ∀ {l l' : List Value},VRs ρ l l' → (∀ x ∈ l,(∃ k n,x = .int k n) ∨ ∃ s,x = .string s) → l' = l
 | [],_,h,_ => by cases h;rfl
 | x :: l,_,h,hx => by
  cases h with
  | cons h1 h2 =>
   rw [vrs_plain h2 fun y hy => hx y (by simp [hy])]
   rcases hx x (by simp) with ⟨k,n,rfl⟩ | ⟨s,rfl⟩
   ·cases h1;rfl
   ·cases h1;rfl
theorem ops_real {ρ : Ev.Ren} {h : H} {w : World} (r : Rel ρ h w) {v v' : Value} (hv : VR ρ v v') {l : List Rn.Op} (e : decS 5 decOp h v = some l) : OpsW w v' l := by
 obtain ⟨a,c,h1,h2,h3,h4⟩ := decS_real r hv e
 refine ⟨a,c,h1,h2,h3,fun i o ho => ?_⟩
 obtain ⟨b,f,cs,cs',e1,e2,e3,e4,e5⟩ := h4 i o ho
 have := decOp_inv e3
 subst this
 have := vrs_plain e4 (by simp [opC])
 subst this
 exact ⟨b,f,e1,e2,e5⟩
theorem sts_real {ρ : Ev.Ren} {h : H} {w : World} (r : Rel ρ h w) {v v' : Value} (hv : VR ρ v v') {l : List St} (e : decS 6 (decSt h) h v = some l) : StsW w v' l := by
 obtain ⟨a,c,h1,h2,h3,h4⟩ := decS_real r hv e
 refine ⟨a,c,h1,h2,fun i s hs => ?_⟩
 obtain ⟨b,f,cs,cs',e1,e2,e3,e4,e5⟩ := h4 i s hs
 unfold decSt at e3
 split at e3
 ·rename_i k z1 z2 z3 p ov
  obtain ⟨ops,ho,rfl⟩ := Option.map_eq_some_iff.1 e3
  cases e4 with
  | cons q0 e4 => cases e4 with
   | cons q1 e4 => cases e4 with
    | cons q2 e4 => cases e4 with
     | cons q3 e4 => cases e4 with
      | cons q4 e4 => cases e4 with
       | cons q5 e4 =>
        cases e4
        cases q0;cases q1;cases q2;cases q3;cases q4
        exact ⟨b,f,_,e1,e2,ops_real r q5 ho,by simpa using e5 0 _ rfl,e5 1 _ rfl,e5 2 _ rfl,e5 3 _ rfl,e5 4 _ rfl,e5 5 _ rfl⟩
 ·cases e3
theorem wat_real {ρ : Ev.Ren} {h : H} {w : World} (r : Rel ρ h w) (e : watB h = true) : WatW w := by
 unfold watB at e
 split at e
 ·rename_i a b c d rest es lv an hg
  have hg' : h[1]? = some (.cells (.string a :: .string b :: .string c :: .string d :: rest) es lv an) := hg
  have hb := r.glb 1 (by decide)
  have hbr : BR ρ ⟨1,0,0,0⟩ w (.cells (.string a :: .string b :: .string c :: .string d :: rest) es lv an) := r.blk _ _ _ hb hg'
  simp only [Bool.and_eq_true,beq_iff_eq] at e
  obtain ⟨⟨⟨ea,eb⟩,ec⟩,ed⟩ := e
  have c0 : w.cell? ⟨1,0,none⟩ = some (.string a) := by
   obtain ⟨v',h1,h2⟩ := hbr.2.2 0 _ rfl
   cases h2;exact h1
  have c1 : w.cell? ⟨1,1,none⟩ = some (.string b) := by
   obtain ⟨v',h1,h2⟩ := hbr.2.2 1 _ rfl
   cases h2;exact h1
  have c2 : w.cell? ⟨1,2,none⟩ = some (.string c) := by
   obtain ⟨v',h1,h2⟩ := hbr.2.2 2 _ rfl
   cases h2;exact h1
  have c3 : w.cell? ⟨1,3,none⟩ = some (.string d) := by
   obtain ⟨v',h1,h2⟩ := hbr.2.2 3 _ rfl
   cases h2;exact h1
  have hblk : ∃ arr t fr,w.heap[1]? = some (.cells arr t fr) := by
   unfold World.cell? at c0
   split at c0
   ·rename_i c T fr hc;exact ⟨c,T,fr,hc⟩
   ·cases c0
  obtain ⟨arr,t,fr,hblk⟩ := hblk
  simp only [World.cell?,hblk] at c0 c1 c2 c3
  refine ⟨arr,t,fr,arr.toList.drop 4,hblk,?_⟩
  have g : ∀ j x,arr[j]? = some x → arr.toList[j]? = some x := fun j x hx => by rw [Array.getElem?_toList];exact hx
  have d0 := drop_at (g 0 _ (by simpa using c0))
  have d1 := drop_at (g 1 _ (by simpa using c1))
  have d2 := drop_at (g 2 _ (by simpa using c2))
  have d3 := drop_at (g 3 _ (by simpa using c3))
  rw [← List.drop_zero (l := arr.toList),d0,d1,d2,d3,ofB_of ea,ofB_of eb,ofB_of ec,ofB_of ed]
  rfl
 ·cases e
theorem old_rel {ρ : Ev.Ren} {h : H} {w w' : World} (r : Rel ρ h w) (k : Old w.heap.size w w') : Rel ρ h w' ∧ Ext ρ h w ρ h w' := by
 have hs := k.size
 refine ⟨⟨⟨r.dom,fun b i hb => Nat.lt_of_lt_of_le (r.bnd b i hb) hs,fun b i x hb hx => (r.blk b i x hb hx).keep (.refl _) (k.block _ (r.bnd b i hb)),r.sep,r.anc,r.glb⟩,r.gt.dead,?_⟩,?_⟩
 ·obtain ⟨t,fr,e⟩ := r.gt.tab
  exact ⟨t,fr,(k.block gTab (Nat.lt_of_lt_of_le (by decide) r.gsize)).trans e⟩
 ·exact ⟨.refl _,Nat.le_refl _,hs,fun _ _ _ => rfl,fun b' hb' _ => k.block b' hb',fun _ _ h => .inl h,fun _ _ _ _ h1 h2 h3 => by rw [h1] at h2;cases h2;exact h3,k.os,k.output⟩
theorem printV_pan (z : Rn.WRes) : isPan (printV z) = false := by cases z <;> rfl
theorem printV_rel (ρ : Ev.Ren) (z : Rn.WRes) : VR ρ (printV z) (printW z) := by
 cases z with
 | ok t => exact .tuple (.cons (.string _) (.cons (.int _ _) .nil))
 | long => exact .tuple (.cons (.string _) (.cons (.int _ _) .nil))
 | bad => exact .tuple (.cons (.string _) (.cons (.int _ _) .nil))
theorem decRu_inv {cs : List Value} {r : Ru} (e : decRu cs = some r) : cs = ruC r := by
 unfold decRu at e
 split at e
 ·cases e;rfl
 ·cases e
theorem xPrint_inv {args : List Value} {h : H} {r : Value} {h' : H} (e : xPrint args h = some (r,h')) : ∃ ru v l,args = [.agg ⟨ruC ru⟩,v] ∧ watB h = true ∧ decS 6 (decSt h) h v = some l ∧ r = printV (Rn.print ru l) ∧ h' = h := by
 unfold xPrint at e
 split at e
 ·rename_i rc v
  split at e
  ·rename_i hw
   split at e
   ·rename_i ru l hr hl
    injection e with e
    injection e with e1 e2
    exact ⟨ru,v,l,by rw [decRu_inv hr],hw,hl,e1.symm,e2.symm⟩
   ·cases e
  ·cases e
 ·cases e
theorem print_ok : CallOk Tryz.prog (fun g args h => if g = 14 then xPrint args h else none) := by
 refine x_of (by kernel_rfl) fun args h r h' e => ?_
 obtain ⟨ru,v,l,rfl,hw,hl,rfl,rfl⟩ := xPrint_inv e
 refine ⟨printV_pan _,fun ρ w args' rl hv => ?_⟩
 obtain ⟨a',b',rfl,h1,h2⟩ := args2 hv
 cases h1 with
 | agg hc =>
  rename_i cs'
  have := vrs_plain hc (by simp [ruC])
  subst this
  have hg : Vars w := ⟨rl.gsize,rl.gt.tab⟩
  have hq := print_walk num_k step_k ru l b' w hg (wat_real rl hw) (sts_real rl h2 hl)
  generalize Rn.print ru l = z at *
  refine Calls.mono hq ?_
  rintro e w' ⟨rfl,ho⟩
  obtain ⟨g1,g2⟩ := old_rel rl ho
  exact ⟨_,ρ,rfl,printV_rel ρ z,g1,g2⟩
theorem X_ok1 : XOk Tryz.prog (X true) := by
 intro f x hx
 unfold X at hx
 split at hx <;> first
  | (cases hx;exact print_ok)
  | (cases hx;exact split_ok)
  | (cases hx;exact itoa_ok)
  | (cases hx;exact join_ok)
  | (cases hx;exact quote_ok)
  | (cases hx;exact atoi_ok)
  | (cases hx;exact idx_ok)
  | (simp at hx)
theorem cf_ok1 (F : Nat) : CallOk Tryz.prog (cf true F) := evFn_sound splitL.mixed tbl_ok X_ok1 XD_ok F
end YtnoghchcboiojaaGreatDoor
end Go.Proofs
end
section
set_option maxRecDepth 100000
namespace Go.Proofs.YtnoghchcboiojaaGreatDoor
open Go.Ev
open Go.Rn (Bs quote quoteB hexD)
variable {p : Bool} {F : Nat} {h : H}
theorem cut_1 {l : Bs} {i : Nat} {c : UInt8} {g : H} (hc : l[i]? = some c) : cutS (ofB l) i (i + 1) g = some (vs [c],g) := by
 have hi := (List.getElem?_eq_some_iff.1 hc).1
 rw [cutS_ofB (by omega) (by omega),drop_cons hc]
 simp
def hexL : Bs := [48,49,50,51,52,53,54,55,56,57,97,98,99,100,101,102]
theorem lit_hex : strL4032af8d = ofB hexL := rfl
theorem lit_w : str34 = ofB [34] ∧ str92 = ofB [92] ∧ str92_110 = ofB [92,110] ∧ str92_120 = ofB [92,120] := ⟨rfl,rfl,rfl,rfl⟩
theorem hexL_hi (c : UInt8) : hexL[c.toNat / 16]? = some (hexD (c.toNat / 16)) := Go.Rn.u8 (p := fun c => hexL[c.toNat / 16]? = some (hexD (c.toNat / 16))) (by decide +kernel) c
theorem hexL_lo (c : UInt8) : hexL[c.toNat % 16]? = some (hexD (c.toNat % 16)) := Go.Rn.u8 (p := fun c => hexL[c.toNat % 16]? = some (hexD (c.toNat % 16))) (by decide +kernel) c
theorem quoteB_len (c : UInt8) : (quoteB c).length ≤ 4 := by
 unfold quoteB
 split
 ·simp
 ·split
  ·simp
  ·split <;> simp
theorem prt_p (c : UInt8) : (decide ((c.toNat : Int) < 32) || decide ((126 : Int) < c.toNat)) = (decide (c < 32) || decide (c > 126)) :=
 Go.Rn.u8 (p := fun c => (decide ((c.toNat : Int) < 32) || decide ((126 : Int) < c.toNat)) = (decide (c < 32) || decide (c > 126))) (by decide +kernel) c
theorem hi_p (c : UInt8) : IntKind.u8.wrap ((c.toNat : Int) / 16) = ((c.toNat / 16 : Nat) : Int) :=
 Go.Rn.u8 (p := fun c => IntKind.u8.wrap ((c.toNat : Int) / 16) = ((c.toNat / 16 : Nat) : Int)) (by decide +kernel) c
theorem hi1_p (c : UInt8) : IntKind.u8.wrap (((c.toNat / 16 : Nat) : Int) + 1) = ((c.toNat / 16 : Nat) : Int) + 1 :=
 Go.Rn.u8 (p := fun c => IntKind.u8.wrap (((c.toNat / 16 : Nat) : Int) + 1) = ((c.toNat / 16 : Nat) : Int) + 1) (by decide +kernel) c
theorem lo_p (c : UInt8) : IntKind.u8.wrap ((c.toNat : Int) % 16) = ((c.toNat % 16 : Nat) : Int) :=
 Go.Rn.u8 (p := fun c => IntKind.u8.wrap ((c.toNat : Int) % 16) = ((c.toNat % 16 : Nat) : Int)) (by decide +kernel) c
theorem lot_p (c : UInt8) : (c.toNat : Int).tmod 16 = ((c.toNat % 16 : Nat) : Int) :=
 Go.Rn.u8 (p := fun c => (c.toNat : Int).tmod 16 = ((c.toNat % 16 : Nat) : Int)) (by decide +kernel) c
theorem lo1_p (c : UInt8) : IntKind.u8.wrap (((c.toNat % 16 : Nat) : Int) + 1) = ((c.toNat % 16 : Nat) : Int) + 1 :=
 Go.Rn.u8 (p := fun c => IntKind.u8.wrap (((c.toNat % 16 : Nat) : Int) + 1) = ((c.toNat % 16 : Nat) : Int) + 1) (by decide +kernel) c
def E98 (p : Bool) (F : Nat) : K := evC F (cxOf (cf p F) (cfX XD) [.tmp 2]) (.seq (.region r98_15 [2]) .ret) (endK (cfX XD) [.tmp 2]) noK (endK (cfX XD) [.tmp 2])
theorem E98_eq {s : Env} {g : H} {ds : Ds} : E98 p F s g ds = evC F (cxOf (cf p F) (cfX XD) [.tmp 2]) (.seq (.region r98_15 [2]) .ret) (endK (cfX XD) [.tmp 2]) noK (endK (cfX XD) [.tmp 2]) s g ds := nr rfl
def L98 (p : Bool) (F : Nat) (fuel : Nat) : K := loopK F (cxOf (cf p F) (cfX XD) [.tmp 2]) [0,3,4,5] l98_14 (putK 0 (E98 p F) noK) (endK (cfX XD) [.tmp 2]) fuel
theorem L98_succ {n : Nat} {s : Env} {g : H} {ds : Ds} : L98 p F (n + 1) s g ds = evC F (cxOf (cf p F) (cfX XD) [.tmp 2]) l98_14 (keepK [0,3,4,5] (L98 p F n)) (putK 0 (E98 p F) noK) (endK (cfX XD) [.tmp 2]) s g ds := loopK_succ
theorem L98_eq (t : Bs) (hl : t.length ≤ 35184372000000) : ∀ (m i : Nat) (acc : Bs),m = t.length - i → i ≤ t.length → acc.length ≤ 4 * i + 1 → ∀ fuel,m < fuel →
  L98 p F fuel [(0,vs t),(3,vs hexL),(4,vs acc),(5,vi i)] h [] = some (vs (acc ++ ((t.drop i).flatMap quoteB ++ [34])),h) := by
 intro m
 induction m with
 | zero =>
  intro i acc hm hi ha fuel hfu
  obtain ⟨fuel,rfl⟩ : ∃ f',fuel = f' + 1 := ⟨fuel - 1,by omega⟩
  have e : i = t.length := by omega
  subst e
  have hno : ¬ (9223372036854775807 : Int) < (acc.length : Int) + 1 := by omega
  rw [L98_succ,List.drop_eq_nil_iff.2 (Nat.le_refl _)]
  simp [l98_14,r98_4]
  rw [E98_eq]
  simp [r98_15,lit_w,hno,ofB_app]
 | succ m ih =>
  intro i acc hm hi ha fuel hfu
  obtain ⟨fuel,rfl⟩ : ∃ f',fuel = f' + 1 := ⟨fuel - 1,by omega⟩
  have hlt : i < t.length := by omega
  obtain ⟨c,hc⟩ : ∃ c,t[i]? = some c := ⟨_,List.getElem?_eq_getElem hlt⟩
  have hlt' : (i : Int) < t.length := by omega
  have g1 : atS (ofB t) (i : Int) h = some (.int .u8 c.toNat,h) := atS_ofB hc
  have wi : IntKind.i64.wrap ((i : Int) + 1) = (i : Int) + 1 := wrap_in (by omega) (by omega)
  have hcut := cut_1 (g := h) hc
  have z1 : (0 : Int) ≤ (i : Int) + 1 := by omega
  have z2 : ((i : Int) + 1).toNat = i + 1 := by omega
  have n1 : ¬ (9223372036854775807 : Int) < (acc.length : Int) + 1 := by omega
  have n2 : ¬ (9223372036854775807 : Int) < (acc.length : Int) + 2 := by omega
  have n3 : ¬ (9223372036854775807 : Int) < (acc.length : Int) + 1 + 1 := by omega
  have hq := quoteB_len c
  have main := ih (i + 1) (acc ++ quoteB c) (by omega) (by omega) (by simp;omega) fuel (by omega)
  rw [drop_cons hc,List.flatMap_cons]
  have hfin : acc ++ (quoteB c ++ (t.drop (i + 1)).flatMap quoteB ++ [34]) = acc ++ quoteB c ++ ((t.drop (i + 1)).flatMap quoteB ++ [34]) := by simp
  rw [hfin,← main]
  rw [L98_succ]
  unfold quoteB
  by_cases h1 : c = 34
  ·subst h1
   simp [l98_14,r98_4,hlt',r98_5,g1,r98_6,r98_7,lit_w,n1,n2,n3,ofB_app,pcS_eq,wi,z1,z2,hcut,r98_13]
  by_cases h2 : c = 92
  ·subst h2
   simp [l98_14,r98_4,hlt',r98_5,g1,r98_6,r98_7,lit_w,n1,n2,n3,ofB_app,pcS_eq,wi,z1,z2,hcut,r98_13]
  by_cases h3 : c = 10
  ·subst h3
   simp [l98_14,r98_4,hlt',r98_5,g1,r98_6,r98_8,r98_9,lit_w,n1,n2,n3,ofB_app,pcS_eq,wi,z1,z2,hcut,r98_13]
  by_cases h4 : (decide (c < 32) || decide (c > 126)) = true
  ·have h4' := (prt_p c).trans h4
   rw [if_neg (by simp [h1,h2]),if_neg h3,if_pos h4]
   have ca := cut_1 (g := h) (hexL_hi c)
   have cb := cut_1 (g := h) (hexL_lo c)
   have a1 := hi_p c
   have a2 := hi1_p c
   have a3 := lot_p c
   have a4 := lo1_p c
   generalize c.toNat / 16 = qa at *
   generalize c.toNat % 16 = qb at *
   have y1 : ((qa : Int) + 1).toNat = qa + 1 := by omega
   have y2 : ((qb : Int) + 1).toNat = qb + 1 := by omega
   have n12 : ¬ (9223372036854775807 : Int) < (acc.length : Int) + 2 + 2 := by omega
   have n11 : ¬ (9223372036854775807 : Int) < (acc.length : Int) + 3 + 1 + 1 := by omega
   have y3 : (0 : Int) ≤ (qa : Int) + 1 := by omega
   have y4 : (0 : Int) ≤ (qb : Int) + 1 := by omega
   have n4 : ¬ (9223372036854775807 : Int) < (acc.length : Int) + 2 + 1 := by omega
   have n5 : ¬ (9223372036854775807 : Int) < (acc.length : Int) + 3 + 1 := by omega
   have n6 : ¬ (9223372036854775807 : Int) < (acc.length : Int) + 2 + 1 + 1 := by omega
   have n7 : ¬ (9223372036854775807 : Int) < (acc.length : Int) + 3 := by omega
   have n9 : ¬ (9223372036854775807 : Int) < (acc.length : Int) + 1 + 2 := by omega
   have n10 : ¬ (9223372036854775807 : Int) < (acc.length : Int) + 1 + 3 := by omega
   have n8 : ¬ (9223372036854775807 : Int) < (acc.length : Int) + 4 := by omega
   by_cases h5 : (c.toNat : Int) < 32
   ·simp [l98_14,r98_4,hlt',r98_5,g1,r98_6,r98_8,r98_10,d98_11,h1,h2,h3,h5,lit_w,n1,n2,n3,ofB_app,pcS_eq,wi,a1,a2,a3,a4,y1,y2,y3,y4,ca,cb,n4,n5,n6,n7,n8,n9,n10,n11,n12,r98_13]
   ·have h6 : (126 : Int) < c.toNat := by simp [h5] at h4';omega
    simp [l98_14,r98_4,hlt',r98_5,g1,r98_6,r98_8,r98_10,d98_11,h1,h2,h3,h5,h6,lit_w,n1,n2,n3,ofB_app,pcS_eq,wi,a1,a2,a3,a4,y1,y2,y3,y4,ca,cb,n4,n5,n6,n7,n8,n9,n10,n11,n12,r98_13]
  ·have h4' := (prt_p c).trans (Bool.eq_false_iff.2 h4)
   rw [if_neg (by simp [h1,h2]),if_neg h3,if_neg h4]
   simp at h4'
   have h5 : ¬ (c.toNat : Int) < 32 := by omega
   have h6 : ¬ (126 : Int) < c.toNat := by omega
   simp [l98_14,r98_4,hlt',r98_5,g1,r98_6,r98_8,r98_10,r98_12,h1,h2,h3,h5,h6,lit_w,n1,n2,n3,ofB_app,pcS_eq,wi,z1,z2,hcut,r98_13]
theorem rquote_eq (t : Bs) (hF : t.length < F) (hl : t.length ≤ 35184372000000) : cf p (F + 1) 98 [vs t] h = some (vs (quote t),h) := by
 rw [cf_step (a := a98) rfl rfl (by simp [a98])]
 have main := L98_eq (p := p) (F := F) (h := h) t hl _ 0 [34] rfl (Nat.zero_le _) (by simp) F (by omega)
 simp [a98,r98_0,r98_1,r98_2,r98_3,lit_hex,lit_w]
 exact main
end Go.Proofs.YtnoghchcboiojaaGreatDoor
end
section
set_option maxRecDepth 100000
namespace Go.Proofs.YtnoghchcboiojaaGreatDoor
open Go.Ev
open Go.Rn (Bs small digit bare blank hex)
variable {p : Bool} {F : Nat} {h : H}
theorem rsmall_eq (c : UInt8) : cf p (F + 1) 46 [.int .u8 c.toNat] h = some (.bool (small c),h) := by
 rw [cf_step (a := a46) rfl rfl (by simp [a46])]
 have e := small_p c
 by_cases h1 : (c.toNat : Int) ≥ 97
 ·simp [a46,r46_0,r46_1,h1] at e ⊢
  exact e
 ·simp [a46,r46_0,r46_1,h1] at e ⊢
  exact e
theorem rdigit_eq (c : UInt8) : cf p (F + 1) 47 [.int .u8 c.toNat] h = some (.bool (digit c),h) := by
 rw [cf_step (a := a47) rfl rfl (by simp [a47])]
 have e := digit_p c
 by_cases h1 : (c.toNat : Int) ≥ 48
 ·simp [a47,r47_0,r47_1,h1] at e ⊢
  exact e
 ·simp [a47,r47_0,r47_1,h1] at e ⊢
  exact e
@[simp] theorem be95 (c : UInt8) : ((c.toNat : Int) == 95) = decide (c = 95) := byte_beq c 95 (by decide)
@[simp] theorem be46 (c : UInt8) : ((c.toNat : Int) == 46) = decide (c = 46) := byte_beq c 46 (by decide)
theorem rbare_eq (c : UInt8) : cf p (F + 2) 48 [.int .u8 c.toNat] h = some (.bool (bare c),h) := by
 rw [cf_step (a := a48) rfl rfl (by simp [a48])]
 have e1 := rsmall_eq (p := p) (F := F) (h := h) c
 have e2 := rdigit_eq (p := p) (F := F) (h := h) c
 by_cases hx : c = 47 ∨ c = 45 ∨ c = 95 ∨ c = 46
 ·rcases hx with rfl | rfl | rfl | rfl
  ·rw [show small 47 = false from by decide] at e1
   rw [show digit 47 = false from by decide] at e2
   rw [show bare 47 = true from by decide]
   simp at e1 e2
   simp [a48,r48_0,r48_1,e1,e2]
  ·rw [show small 45 = false from by decide] at e1
   rw [show digit 45 = false from by decide] at e2
   rw [show bare 45 = true from by decide]
   simp at e1 e2
   simp [a48,r48_0,r48_1,e1,e2]
  ·rw [show small 95 = false from by decide] at e1
   rw [show digit 95 = false from by decide] at e2
   rw [show bare 95 = true from by decide]
   simp at e1 e2
   simp [a48,r48_0,r48_1,e1,e2]
  ·rw [show small 46 = false from by decide] at e1
   rw [show digit 46 = false from by decide] at e2
   rw [show bare 46 = true from by decide]
   simp at e1 e2
   simp [a48,r48_0,r48_1,e1,e2]
 ·simp only [not_or] at hx
  obtain ⟨x1,x2,x3,x4⟩ := hx
  have e5 := upper_p c
  have e6 : bare c = (small c || digit c || (decide ((c.toNat : Int) ≥ 65) && decide ((c.toNat : Int) ≤ 90))) := by
   have y1 : (c == 47) = false := beq_eq_false_iff_ne.2 x1
   have y2 : (c == 45) = false := beq_eq_false_iff_ne.2 x2
   have y3 : (c == 95) = false := beq_eq_false_iff_ne.2 x3
   have y4 : (c == 46) = false := beq_eq_false_iff_ne.2 x4
   rw [e5]
   unfold bare
   rw [y1,y2,y3,y4]
   simp
  rw [e6]
  clear e5 e6
  generalize small c = s1 at *
  generalize digit c = s2 at *
  cases s1
  ·cases s2
   ·by_cases h1 : (c.toNat : Int) ≥ 65
    ·by_cases h2 : (c.toNat : Int) ≤ 90
     ·simp [a48,r48_0,r48_1,e1,e2,h1,h2]
     ·simp [a48,r48_0,r48_1,e1,e2,h1,h2,x1,x2,x3,x4]
    ·simp [a48,r48_0,r48_1,e1,e2,h1,x1,x2,x3,x4]
   ·simp [a48,r48_0,r48_1,e1,e2]
  ·simp [a48,r48_0,r48_1,e1,e2]
theorem rhex1 : ∀ c : UInt8,digit c = true → IntKind.i64.wrap (IntKind.i64.wrap (c.toNat : Int) - 48) = hexI c := Go.Rn.u8 (p := fun c => digit c = true → IntKind.i64.wrap (IntKind.i64.wrap (c.toNat : Int) - 48) = hexI c) (by decide +kernel)
theorem rhex2 : ∀ c : UInt8,digit c = false → 97 ≤ (c.toNat : Int) → (c.toNat : Int) ≤ 102 → IntKind.i64.wrap (IntKind.i64.wrap (IntKind.i64.wrap (c.toNat : Int) - 97) + 10) = hexI c := Go.Rn.u8 (p := fun c => digit c = false → 97 ≤ (c.toNat : Int) → (c.toNat : Int) ≤ 102 → IntKind.i64.wrap (IntKind.i64.wrap (IntKind.i64.wrap (c.toNat : Int) - 97) + 10) = hexI c) (by decide +kernel)
theorem rhex3 : ∀ c : UInt8,digit c = false → 65 ≤ (c.toNat : Int) → (c.toNat : Int) ≤ 70 → IntKind.i64.wrap (IntKind.i64.wrap (IntKind.i64.wrap (c.toNat : Int) - 65) + 10) = hexI c := Go.Rn.u8 (p := fun c => digit c = false → 65 ≤ (c.toNat : Int) → (c.toNat : Int) ≤ 70 → IntKind.i64.wrap (IntKind.i64.wrap (IntKind.i64.wrap (c.toNat : Int) - 65) + 10) = hexI c) (by decide +kernel)
theorem rhex_eq (c : UInt8) : cf p (F + 2) 79 [.int .u8 c.toNat] h = some (vi (hexI c),h) := by
 rw [cf_step (a := a79) rfl rfl (by simp [a79])]
 have e2 := rdigit_eq (p := p) (F := F) (h := h) c
 have q1 := rhex1 c
 have q2 := rhex2 c
 have q3 := rhex3 c
 have q4 := hex4 c
 generalize hexI c = z at *
 cases hd : digit c with
 | true =>
  rw [hd] at e2 q1
  simp [a79,r79_0,r79_1,r79_2,e2,q1 rfl]
 | false =>
  rw [hd] at e2
  by_cases h1 : 97 ≤ (c.toNat : Int)
  ·by_cases h2 : (c.toNat : Int) ≤ 102
   ·simp [a79,r79_0,r79_1,r79_3,r79_4,e2,h1,h2,q2 hd h1 h2]
   ·have h3 : ¬ (c.toNat : Int) ≤ 70 := by omega
    have h4 : (65 : Int) ≤ c.toNat := by omega
    simp [a79,r79_0,r79_1,r79_3,r79_5,r79_7,e2,h1,h2,h3,h4,q4 hd (fun q => h2 q.2) (fun q => h3 q.2)]
  ·by_cases h4 : (65 : Int) ≤ c.toNat
   ·by_cases h3 : (c.toNat : Int) ≤ 70
    ·simp [a79,r79_0,r79_1,r79_3,r79_5,r79_6,e2,h1,h3,h4,q3 hd h4 h3]
    ·simp [a79,r79_0,r79_1,r79_3,r79_5,r79_7,e2,h1,h3,h4,q4 hd (fun q => h1 q.1) (fun q => h3 q.2)]
   ·simp [a79,r79_0,r79_1,r79_3,r79_5,r79_7,e2,h1,h4,q4 hd (fun q => h1 q.1) (fun q => h4 q.1)]
end Go.Proofs.YtnoghchcboiojaaGreatDoor
end
section
set_option maxRecDepth 100000
namespace Go.Proofs.YtnoghchcboiojaaGreatDoor
open Go.Ev
open Go.Rn (Bs quote placed bare)
variable {p : Bool} {F : Nat} {h : H}
theorem rplace_eq (t : Bs) (hF : t.length < F) (hl : t.length ≤ 35184372000000) : cf p (F + 3) 66 [vs t] h = some (vs (placed t),h) := by
 rw [cf_step (a := a66) rfl rfl (by simp [a66])]
 have e1 := rquote_eq (p := p) (F := F + 1) (h := h) t (by omega) hl
 cases t with
 | nil =>
  simp [a66,r66_0,r66_1,r66_2,e1,placed]
 | cons c r =>
  have g1 : atS (ofB (c :: r)) 0 h = some (.int .u8 c.toNat,h) := atS_ofB (i := 0) rfl
  have hne : ((r.length : Int) + 1 == 0) = false := by simp;omega
  by_cases h47 : c = 47
  ·have h47b : ((c.toNat : Int) != 47) = false := by subst h47;rfl
   have hh : (c :: r).head? = some 47 := by simp [h47]
   simp [a66,r66_0,r66_1,r66_3,hne,g1,h47b]
   apply Ans.to_eq
   have hpl : placed (c :: r) = if (c :: r).all bare = true then c :: r else quote (c :: r) := by
    unfold placed
    simp [hh]
   generalize ht : c :: r = t at *
   refine loop_rule (fun m s h' => ∃ i : Nat,i ≤ t.length ∧ m = t.length - i ∧ h' = h ∧ s = [(0,vs t),(3,vi i)] ∧ t.all bare = (t.drop i).all bare)
    ?_ (F + 2) (t.length - 0) _ h (by omega) ⟨0,by omega,rfl,rfl,rfl,by simp⟩
   rintro m s h' again ⟨i,hi,rfl,hh',rfl,hq⟩ hag
   subst hh'
   by_cases hlt : i < t.length
   ·obtain ⟨d,hd⟩ : ∃ d,t[i]? = some d := ⟨_,List.getElem?_eq_getElem hlt⟩
    have hdrop := drop_cons hd
    have hlt' : (i : Int) < t.length := by omega
    have g2 : atS (ofB t) (i : Int) h' = some (.int .u8 d.toNat,h') := atS_ofB hd
    have e2 := rbare_eq (p := p) (F := F) (h := h') d
    have wi : IntKind.i64.wrap ((i : Int) + 1) = (i : Int) + 1 := wrap_in (by omega) (by omega)
    rw [hdrop,List.all_cons] at hq
    cases hb : bare d with
    | false =>
     rw [hb] at e2 hq
     simp at hq
     simp [l66_8,r66_4,hlt',r66_5,g2,e2,aUn,r66_6,e1]
     refine Ans.of ⟨?_,rfl⟩
     rw [hpl,if_neg (by simpa using hq)]
    | true =>
     rw [hb] at e2 hq
     simp only [Bool.true_and] at hq
     simp [l66_8,r66_4,hlt',r66_5,g2,e2,aUn,r66_7,wi]
     exact hag (t.length - (i + 1)) [(0,vs t),(3,vi ((i : Int) + 1))] _ (by omega) ⟨i + 1,by omega,rfl,rfl,by simp,hq⟩
   ·have : i = t.length := by omega
    subst this
    rw [List.drop_eq_nil_iff.2 (Nat.le_refl _)] at hq
    simp only [List.all_nil] at hq
    simp [l66_8,r66_4,r66_9]
    refine Ans.of ⟨?_,rfl⟩
    rw [hpl,if_pos hq]
  ·have h47b : ((c.toNat : Int) != 47) = true := by
    have : ((c.toNat : Int) == 47) = decide (c = 47) := be47 c
    simp only [bne,this];simp [h47]
   have hp : placed (c :: r) = quote (c :: r) := by
    unfold placed
    simp [h47]
   rw [hp]
   simp [a66,r66_0,r66_1,r66_2,hne,g1,h47b,e1]
end Go.Proofs.YtnoghchcboiojaaGreatDoor
end
section
set_option maxRecDepth 100000
namespace Go.Proofs.YtnoghchcboiojaaGreatDoor
open Go.Ev
open Go.Rn (Bs OA opTab opT opArgT opArgsT joinW placed quote numT w_brief w_counted)
variable {p : Bool} {F : Nat} {h : H}
def RoQ (res : Option Bs) (v : Value) : Prop := ∃ s b,v = .tuple ⟨[vs s,.bool b]⟩ ∧ match res with
 | some t => s = t ∧ b = true
 | none => b = false
def I64 (n : Int) : Prop := -9223372036854775808 ≤ n ∧ n ≤ 9223372036854775807
theorem joinW_app : ∀ (acc x : List Bs),acc ≠ [] → joinW (acc ++ x) = joinW acc ++ (x.map fun t => 32 :: t).flatten
 | [],_,h => absurd rfl h
 | [w],[],_ => by simp [joinW]
 | [w],[y],_ => by simp [joinW]
 | [w],y :: z :: x,_ => by
  have e := joinW_app [y] (z :: x) (by simp)
  show w ++ 32 :: joinW (y :: z :: x) = _
  rw [show (y :: z :: x : List Bs) = [y] ++ z :: x from rfl,e]
  simp [joinW]
 | w :: y :: acc,x,_ => by
  have e := joinW_app (y :: acc) x (by simp)
  show w ++ 32 :: joinW (y :: acc ++ x) = (w ++ 32 :: joinW (y :: acc)) ++ _
  rw [e];simp
def ORes (o : Rn.Op) (all : List OA) (acc : List Bs) (l : List OA) : Option Bs := match opArgsT o l with
 | none => none
 | some ws => if (o.data = [] ∨ .d ∈ all) ∧ (o.version = 0 ∨ .v ∈ all) ∧ (o.flags = 0 ∨ .f ∈ all) then some (joinW (acc ++ ws)) else none
theorem ORes_nil (o : Rn.Op) (all : List OA) (acc : List Bs) : ORes o all acc [] = if (o.data = [] ∨ .d ∈ all) ∧ (o.version = 0 ∨ .v ∈ all) ∧ (o.flags = 0 ∨ .f ∈ all) then some (joinW acc) else none := by
 simp [ORes,opArgsT]
theorem ORes_cons (o : Rn.Op) (all : List OA) (acc : List Bs) (a : OA) (l : List OA) : ORes o all acc (a :: l) = match opArgT o a with
  | none => none
  | some x => ORes o all (acc ++ x) l := by
 have e : opArgsT o (a :: l) = match opArgT o a,opArgsT o l with
  | some x,some y => some (x ++ y)
  | _,_ => none := rfl
 unfold ORes
 rw [e]
 cases opArgT o a with
 | none => rfl
 | some x =>
  cases opArgsT o l with
  | none => rfl
  | some y => simp only [List.append_assoc]
theorem ORes_bad {o : Rn.Op} {all l : List OA} {acc : List Bs} {a : OA} (h : opArgT o a = none) : ORes o all acc (a :: l) = none := by rw [ORes_cons,h]
theorem ORes_ok {o : Rn.Op} {all l : List OA} {acc x : List Bs} {a : OA} (h : opArgT o a = some x) : ORes o all acc (a :: l) = ORes o all (acc ++ x) l := by rw [ORes_cons,h]
def E99 (p : Bool) (F : Nat) : K := evC (F + 5) (cxOf (cf p (F + 5)) (cfX XD) [.tmp 2,.tmp 3]) (.seq (.regionD d99_30 [] [2,3]) .ret) (endK (cfX XD) [.tmp 2,.tmp 3]) noK (endK (cfX XD) [.tmp 2,.tmp 3])
theorem E99_eq {s : Env} {g : H} {ds : Ds} : E99 p F s g ds = evC (F + 5) (cxOf (cf p (F + 5)) (cfX XD) [.tmp 2,.tmp 3]) (.seq (.regionD d99_30 [] [2,3]) .ret) (endK (cfX XD) [.tmp 2,.tmp 3]) noK (endK (cfX XD) [.tmp 2,.tmp 3]) s g ds := nr rfl
def L99 (p : Bool) (F : Nat) (fuel : Nat) : K := loopK (F + 5) (cxOf (cf p (F + 5)) (cfX XD) [.tmp 2,.tmp 3]) [1,5,6,7,8,9,10] l99_29 (putK 0 (E99 p F) noK) (endK (cfX XD) [.tmp 2,.tmp 3]) fuel
theorem L99_succ {n : Nat} {s : Env} {g : H} {ds : Ds} : L99 p F (n + 1) s g ds = evC (F + 5) (cxOf (cf p (F + 5)) (cfX XD) [.tmp 2,.tmp 3]) l99_29 (keepK [1,5,6,7,8,9,10] (L99 p F n)) (putK 0 (E99 p F) noK) (endK (cfX XD) [.tmp 2,.tmp 3]) s g ds := loopK_succ
theorem lit_flags : str32_98_114_105_101_102 = ofB (32 :: w_brief) ∧ strL46067599 = ofB (32 :: w_counted) ∧ strLf4c50016 = ofB (32 :: w_brief ++ 32 :: w_counted) := ⟨rfl,rfl,rfl⟩
theorem mem_take {l : List OA} {q : Nat} {a : OA} (ha : l[q]? = some a) (b : OA) : decide (b ∈ l.take (q + 1)) = (decide (b ∈ l.take q) || decide (b = a)) := by
 rw [List.take_add_one,ha]
 simp
theorem o_end (o : Rn.Op) (db vb fb : Bool) : (if (o.data = [] ∨ db = true) ∧ (o.version = 0 ∨ vb = true) ∧ (o.flags = 0 ∨ fb = true) then true else false) = ((db || decide (o.data = [])) && ((vb || decide (o.version = 0)) && (fb || decide (o.flags = 0)))) := by
 by_cases h1 : o.data = [] <;> by_cases h2 : o.version = 0 <;> by_cases h3 : o.flags = 0 <;> cases db <;> cases vb <;> cases fb <;> simp [h1,h2,h3]
theorem roQ_of {C : Prop} [Decidable C] {res : Option Bs} {t : Bs} {b : Bool} (hres : res = if C then some t else none) (hb : b = decide C) : RoQ res (.tuple ⟨[vs t,.bool b]⟩) := by
 by_cases hC : C
 ·rw [if_pos hC] at hres
  exact ⟨t,b,rfl,by rw [hres];exact ⟨rfl,by simp [hb,hC]⟩⟩
 ·rw [if_neg hC] at hres
  exact ⟨t,b,rfl,by rw [hres];simp [hb,hC]⟩
set_option maxHeartbeats 1000000 in
theorem rop_write (o : Rn.Op) (hv : I64 o.version) (hpl : o.place.length ≤ 256) (hdl : o.data.length ≤ 256) (l : List OA) (hl : l.length ≤ 3) (B1 : Nat) (hF : 1000 < F) (h0 : H) (hb1 : h0.size ≤ B1) (res : Option Bs) :
  ∀ (m : Nat) (q : Nat) (acc : List Bs) (db vb fb : Bool) (g : H),m = l.length - q → q ≤ l.length → Kept h0 g [] → hget g B1 = some (.cells (opC o) 0 true []) → acc ≠ [] → (joinW acc).length ≤ 100 + q * 1100 →
   db = decide (OA.d ∈ l.take q) → vb = decide (OA.v ∈ l.take q) → fb = decide (OA.f ∈ l.take q) → res = ORes o l acc (l.drop q) →
   ∀ fuel,m < fuel → Ans (L99 p F fuel [(1,.pointer (some ⟨B1,0,none⟩)),(5,vs (l.map oaR)),(6,vs (joinW acc)),(7,.bool db),(8,.bool vb),(9,.bool fb),(10,vi q)] g []) fun w h' => Kept h0 h' [] ∧ RoQ res w := by
 intro m
 induction m with
 | zero =>
  intro q acc db vb fb g hm hq hk g1 hne hal hdb hvb hfb hres fuel hfu
  obtain ⟨fuel,rfl⟩ : ∃ f',fuel = f' + 1 := ⟨fuel - 1,by omega⟩
  have e : q = l.length := by omega
  subst e
  rw [List.drop_eq_nil_iff.2 (Nat.le_refl _),ORes_nil] at hres
  rw [List.take_length] at hdb hvb hfb
  have hs1 := lt_of_get g1
  rw [L99_succ]
  simp (disch := first|omega|(simp only [zS];first|done|omega)) [l99_29,r99_9]
  rw [E99_eq]
  have hz1 : (ofB o.data == { data := #[] }) = decide (o.data = []) := ofB_beq o.data []
  refine @id (Ans _ fun w h' => Kept h0 h' [] ∧ RoQ res w) ?_
  have fin : ∀ b : Bool,b = ((db || decide (o.data = [])) && ((vb || decide (o.version = 0)) && (fb || decide (o.flags = 0)))) → Kept h0 g [] ∧ RoQ res (.tuple ⟨[vs (joinW acc),.bool b]⟩) := fun b hb =>
   ⟨hk,roQ_of hres (by
    rw [hb,hdb,hvb,hfb]
    by_cases h1 : o.data = [] <;> by_cases h2 : o.version = 0 <;> by_cases h3 : o.flags = 0 <;> by_cases h4 : OA.d ∈ l <;> by_cases h5 : OA.v ∈ l <;> by_cases h6 : OA.f ∈ l <;> simp [h1,h2,h3,h4,h5,h6])⟩
  clear hres hdb hvb hfb
  have hi0 : ∀ n : Int,(n == 0) = decide (n = 0) := fun n => rfl
  have fF : fb = true ∨ fb = false := by cases fb <;> simp
  have vF : vb = true ∨ (vb = false ∧ o.version = 0) ∨ (vb = false ∧ ¬ o.version = 0) := by by_cases h : o.version = 0 <;> cases vb <;> simp [h]
  have dF : db = true ∨ (db = false ∧ o.data = []) ∨ (db = false ∧ ¬ o.data = []) := by by_cases h : o.data = [] <;> cases db <;> simp [h]
  have ez : ofB [] = { data := #[] } := rfl
  rcases dF with rfl | ⟨rfl,hd⟩ | ⟨rfl,hd⟩
  ·rcases vF with rfl | ⟨rfl,hv0⟩ | ⟨rfl,hv0⟩
   ·rcases fF with rfl | rfl
    ·simp (disch := first|omega|(simp only [zS];first|done|omega)) [bB,d99_30,g1,opC,dk_go,chks_nil,chks_cons,chkA_nil,chkA_cons,chk1_no,chk1_yes,chkV_some,hAt_eq,hOf_some,hOf_none,sameV,sameL,sameCell]
     exact Ans.of (fin _ (by simp))
    ·simp (disch := first|omega|(simp only [zS];first|done|omega)) [bB,d99_30,g1,opC,dk_go,chks_nil,chks_cons,chkA_nil,chkA_cons,chk1_no,chk1_yes,chkV_some,hAt_eq,hOf_some,hOf_none,sameV,sameL,sameCell]
     exact Ans.of (fin _ (by simp [hi0]))
   ·rcases fF with rfl | rfl
    ·simp (disch := first|omega|(simp only [zS];first|done|omega)) [bB,d99_30,g1,opC,dk_go,chks_nil,chks_cons,chkA_nil,chkA_cons,chk1_no,chk1_yes,chkV_some,hAt_eq,hOf_some,hOf_none,sameV,sameL,sameCell,hv0]
     exact Ans.of (fin _ (by simp [hv0]))
    ·simp (disch := first|omega|(simp only [zS];first|done|omega)) [bB,d99_30,g1,opC,dk_go,chks_nil,chks_cons,chkA_nil,chkA_cons,chk1_no,chk1_yes,chkV_some,hAt_eq,hOf_some,hOf_none,sameV,sameL,sameCell,hv0]
     exact Ans.of (fin _ (by simp [hi0,hv0]))
   ·simp (disch := first|omega|(simp only [zS];first|done|omega)) [bB,d99_30,g1,opC,dk_go,chks_nil,chks_cons,chkA_nil,chkA_cons,chk1_no,chk1_yes,chkV_some,hAt_eq,hOf_some,hOf_none,sameV,sameL,sameCell,hv0]
    exact Ans.of (fin _ (by simp [hv0]))
  ·rw [decide_eq_true hd] at hz1
   rcases vF with rfl | ⟨rfl,hv0⟩ | ⟨rfl,hv0⟩
   ·rcases fF with rfl | rfl
    ·simp (disch := first|omega|(simp only [zS];first|done|omega)) [bB,d99_30,g1,opC,dk_go,chks_nil,chks_cons,chkA_nil,chkA_cons,chk1_no,chk1_yes,chkV_some,hAt_eq,hOf_some,hOf_none,sameV,sameL,sameCell,hz1]
     exact Ans.of (fin _ (by simp [hd]))
    ·simp (disch := first|omega|(simp only [zS];first|done|omega)) [bB,d99_30,g1,opC,dk_go,chks_nil,chks_cons,chkA_nil,chkA_cons,chk1_no,chk1_yes,chkV_some,hAt_eq,hOf_some,hOf_none,sameV,sameL,sameCell,hz1]
     exact Ans.of (fin _ (by simp [hi0,hd]))
   ·rcases fF with rfl | rfl
    ·simp (disch := first|omega|(simp only [zS];first|done|omega)) [bB,d99_30,g1,opC,dk_go,chks_nil,chks_cons,chkA_nil,chkA_cons,chk1_no,chk1_yes,chkV_some,hAt_eq,hOf_some,hOf_none,sameV,sameL,sameCell,hv0,hz1]
     exact Ans.of (fin _ (by simp [hv0,hd]))
    ·simp (disch := first|omega|(simp only [zS];first|done|omega)) [bB,d99_30,g1,opC,dk_go,chks_nil,chks_cons,chkA_nil,chkA_cons,chk1_no,chk1_yes,chkV_some,hAt_eq,hOf_some,hOf_none,sameV,sameL,sameCell,hv0,hz1]
     exact Ans.of (fin _ (by simp [hi0,hv0,hd]))
   ·simp (disch := first|omega|(simp only [zS];first|done|omega)) [bB,d99_30,g1,opC,dk_go,chks_nil,chks_cons,chkA_nil,chkA_cons,chk1_no,chk1_yes,chkV_some,hAt_eq,hOf_some,hOf_none,sameV,sameL,sameCell,hv0,hz1]
    exact Ans.of (fin _ (by simp [hv0]))
  ·rw [decide_eq_false hd] at hz1
   simp (disch := first|omega|(simp only [zS];first|done|omega)) [bB,d99_30,g1,opC,dk_go,chks_nil,chks_cons,chkA_nil,chkA_cons,chk1_no,chk1_yes,chkV_some,hAt_eq,hOf_some,hOf_none,sameV,sameL,sameCell,hz1]
   exact Ans.of (fin _ (by simp [hd]))
 | succ m ih =>
  intro q acc db vb fb g hm hq hk g1 hne hal hdb hvb hfb hres fuel hfu
  obtain ⟨fuel,rfl⟩ : ∃ f',fuel = f' + 1 := ⟨fuel - 1,by omega⟩
  obtain ⟨a,ha⟩ : ∃ a,l[q]? = some a := ⟨_,List.getElem?_eq_getElem (by omega)⟩
  have hq' := (List.getElem?_eq_some_iff.1 ha).1
  have hqi : (q : Int) < l.length := by omega
  have c1 : atS (ofB (l.map oaR)) (q : Int) g = some (.int .u8 (oaR a).toNat,g) := atS_ofB (by rw [List.getElem?_map,ha];rfl)
  rw [drop_at ha] at hres
  have hs1 := lt_of_get g1
  have wi : IntKind.i64.wrap ((q : Int) + 1) = (q : Int) + 1 := wrap_in (by omega) (by omega)
  have bad : ∀ g' s,opArgT o a = none → Kept h0 g' [] → Kept h0 g' [] ∧ RoQ res (.tuple ⟨[vs s,.bool false]⟩) := fun g' s hb k => ⟨k,s,false,rfl,by rw [hres,ORes_bad hb]⟩
  have go : ∀ (x : List Bs) (s : Bs) (d' v' f' : Bool) (g' : H),opArgT o a = some x → s = joinW (acc ++ x) → s.length ≤ (joinW acc).length + 1100 → d' = (db || decide (OA.d = a)) → v' = (vb || decide (OA.v = a)) → f' = (fb || decide (OA.f = a)) → Kept h0 g' [] → hget g' B1 = some (.cells (opC o) 0 true []) →
    Ans (L99 p F fuel [(1,.pointer (some ⟨B1,0,none⟩)),(5,vs (l.map oaR)),(6,vs s),(7,.bool d'),(8,.bool v'),(9,.bool f'),(10,vi ((q : Int) + 1))] g' []) fun w h' => Kept h0 h' [] ∧ RoQ res w := by
   intro x s d' v' f' g' e1 e2 ebl e3 e4 e5 k e6
   subst e2
   exact ih (q + 1) (acc ++ x) d' v' f' g' (by omega) (by omega) k e6 (by simp [hne]) (by omega) (by rw [e3,hdb,mem_take ha]) (by rw [e4,hvb,mem_take ha]) (by rw [e5,hfb,mem_take ha]) (by rw [hres,ORes_ok e1]) fuel (by omega)
  have hpb := Rn.placed_len o.place
  have hqb := Rn.quote_len o.data
  rw [L99_succ]
  cases a with
  | p =>
   have e3 := rplace_eq (p := p) (F := F + 2) (h := g) o.place (by omega) (by omega)
   simp (disch := first|omega|(simp only [zS];first|done|omega)) [bB,l99_29,r99_9,hqi,r99_10,c1,oaR,r99_11,r99_12,g1,opC,l_blank,e3,ofB_app,r99_28,wi]
   exact go [placed o.place] (joinW acc ++ 32 :: placed o.place) db vb fb g (by simp [opArgT,hpl]) (by rw [joinW_app _ _ hne];simp) (by simp;omega) (by simp) (by simp) (by simp) hk g1
  | d =>
   have e3 := rquote_eq (p := p) (F := F + 4) (h := g) o.data (by omega) (by omega)
   simp (disch := first|omega|(simp only [zS];first|done|omega)) [bB,l99_29,r99_9,hqi,r99_10,c1,oaR,r99_11,r99_13,r99_14,r99_15,g1,opC,l_blank,e3,ofB_app,r99_28,wi]
   exact go [quote o.data] (joinW acc ++ 32 :: quote o.data) true vb fb g (by simp [opArgT,hdl]) (by rw [joinW_app _ _ hne];simp) (by simp;omega) (by simp) (by simp) (by simp) hk g1
  | v =>
   have e3 := rnum_eq (p := p) (F := F + 3) (h := g) o.version hv.1 hv.2
   cases hp : numT o.version with
   | none =>
    rw [hp] at e3
    simp (disch := first|omega|(simp only [zS];first|done|omega)) [bB,l99_29,r99_9,hqi,r99_10,c1,oaR,r99_11,r99_13,r99_16,r99_17,r99_18,r99_19,g1,opC,l_blank,e3,ofB_app,r99_28,wi]
    exact Ans.of (bad _ [] (by simp [opArgT,hp]) hk)
   | some t =>
    have ht : Lib.itoa o.version = t := by
     unfold numT at hp
     split at hp
     ·exact Option.some.inj hp
     ·cases hp
    rw [hp,ht] at e3
    have htl := Rn.numT_len hp
    simp (disch := first|omega|(simp only [zS];first|done|omega)) [bB,l99_29,r99_9,hqi,r99_10,c1,oaR,r99_11,r99_13,r99_16,r99_17,r99_18,r99_20,r99_21,g1,opC,l_blank,e3,ofB_app,r99_28,wi]
    exact go [t] (joinW acc ++ 32 :: t) db true fb g (by simp [opArgT,hp]) (by rw [joinW_app _ _ hne];simp) (by simp;omega) (by simp) (by simp) (by simp) hk g1
  | f =>
   have kr := rowKept g [.string { data := #[] },.string (ofB (32 :: w_brief)),.string (ofB (32 :: w_counted)),.string (ofB (32 :: (w_brief ++ 32 :: w_counted)))] 1 []
   have g2' := (kr.get hs1 (by simp)).trans g1
   have hA : hget (Ev.newRow g [.string { data := #[] },.string (ofB (32 :: w_brief)),.string (ofB (32 :: w_counted)),.string (ofB (32 :: (w_brief ++ 32 :: w_counted)))] 1 []) g.size = some (.cells [.string { data := #[] },.string (ofB (32 :: w_brief)),.string (ofB (32 :: w_counted)),.string (ofB (32 :: (w_brief ++ 32 :: w_counted)))] 1 true []) := by simp
   have kk := hk.trans kr
   have lb : w_brief.length = 5 ∧ w_counted.length = 7 := ⟨rfl,rfl⟩
   simp (disch := first|omega|(simp only [zS];first|done|omega)) [bB,l99_29,r99_9,hqi,r99_10,c1,oaR,r99_11,r99_13,r99_16,r99_22,r99_23,lit_flags]
   generalize Ev.newRow g [.string { data := #[] },.string (ofB (32 :: w_brief)),.string (ofB (32 :: w_counted)),.string (ofB (32 :: (w_brief ++ 32 :: w_counted)))] 1 [] = g2 at *
   have hA : hget g2 g.size = some (.cells [vs [],vs (32 :: w_brief),vs (32 :: w_counted),vs (32 :: (w_brief ++ 32 :: w_counted))] 1 true []) := hA
   clear kr
   by_cases hp : o.flags = 0 ∨ o.flags = 1 ∨ o.flags = 2 ∨ o.flags = 3
   ·have g3' := g2'
    rcases hp with hf | hf | hf | hf
    ·simp only [opC,hf] at g3'
     simp (disch := first|omega|(simp only [zS];first|done|omega)) [bB,r99_24,r99_26,r99_27,r99_28,g3',hA,ofB_app,wi]
     exact go [] (joinW acc) db vb true g2 (by simp [opArgT,hf]) (by simp) (by omega) (by simp) (by simp) (by simp) kk g2'
    ·simp only [opC,hf] at g3'
     simp (disch := first|omega|(simp only [zS];first|done|omega)) [bB,r99_24,r99_26,r99_27,r99_28,g3',hA,ofB_app,wi,lb]
     exact go [w_brief] (joinW acc ++ 32 :: w_brief) db vb true g2 (by simp [opArgT,hf]) (by rw [joinW_app _ _ hne];simp) (by simp [lb]) (by simp) (by simp) (by simp) kk g2'
    ·simp only [opC,hf] at g3'
     simp (disch := first|omega|(simp only [zS];first|done|omega)) [bB,r99_24,r99_26,r99_27,r99_28,g3',hA,ofB_app,wi,lb]
     exact go [w_counted] (joinW acc ++ 32 :: w_counted) db vb true g2 (by simp [opArgT,hf]) (by rw [joinW_app _ _ hne];simp) (by simp [lb]) (by simp) (by simp) (by simp) kk g2'
    ·simp only [opC,hf] at g3'
     simp (disch := first|omega|(simp only [zS];first|done|omega)) [bB,r99_24,r99_26,r99_27,r99_28,g3',hA,ofB_app,wi,lb]
     exact go [w_brief,w_counted] (joinW acc ++ 32 :: (w_brief ++ 32 :: w_counted)) db vb true g2 (by simp [opArgT,hf]) (by rw [joinW_app _ _ hne];simp) (by simp [lb]) (by simp) (by simp) (by simp) kk g2'
   ·have hbad : opArgT o .f = none := by simp only [opArgT];rw [if_neg (by omega),if_neg (by omega),if_neg (by omega),if_neg (by omega)]
    by_cases hb1' : o.flags < 0
    ·simp (disch := first|omega|(simp only [zS];first|done|omega)) [bB,r99_24,r99_25,g2',opC,hb1']
     exact Ans.of (bad _ [] hbad kk)
    ·have hb2' : (3 : Int) < o.flags := by omega
     simp (disch := first|omega|(simp only [zS];first|done|omega)) [bB,r99_24,r99_25,g2',opC,hb1',hb2']
     exact Ans.of (bad _ [] hbad kk)
theorem opArgs_bad {o : Rn.Op} {a : OA} (h : opArgT o a = none) : ∀ l : List OA,a ∈ l → opArgsT o l = none
 | [],hm => by cases hm
 | b :: l,hm => by
  rw [opArgsT]
  rcases List.mem_cons.1 hm with rfl | hm
  ·rw [h]
  ·rw [opArgs_bad h l hm]
   cases opArgT o b <;> rfl
theorem opTab_p : ∀ q ∈ opTab,OA.p ∈ q.2 := by decide
theorem opT_kind {o : Rn.Op} (h : ¬ (1 ≤ o.kind ∧ o.kind ≤ 7)) : opT o = none := by unfold opT;rw [if_neg h]
theorem opT_tab {o : Rn.Op} {k : Nat} {w : Bs} {r : List OA} (hk : o.kind = ((k + 1 : Nat) : Int)) (hq : opTab[k]? = some (w,r)) : opT o = ORes o r [w] r := by
 have hl : k < 7 := (List.getElem?_eq_some_iff.1 hq).1
 unfold opT ORes
 rw [if_pos (by omega)]
 have e : o.kind.toNat - 1 = k := by omega
 rw [e,hq]
 dsimp only
 cases opArgsT o r with
 | none => simp
 | some ws =>
  split
  ·simp
  ·rfl
theorem opT_place {o : Rn.Op} (h : 256 < o.place.length) : opT o = none := by
 by_cases hk : 1 ≤ o.kind ∧ o.kind ≤ 7
 ·obtain ⟨k,hk'⟩ : ∃ k : Nat,o.kind = ((k + 1 : Nat) : Int) := ⟨(o.kind - 1).toNat,by omega⟩
  cases hq : opTab[k]? with
  | none => exact absurd (List.getElem?_eq_none_iff.1 hq) (by show ¬ 7 ≤ k;omega)
  | some q =>
   rw [opT_tab hk' hq,ORes,opArgs_bad (a := .p) (by simp [opArgT];omega) _ (opTab_p _ (List.mem_of_getElem? hq))]
 ·exact opT_kind hk
theorem opT_data {o : Rn.Op} (h : 256 < o.data.length) : opT o = none := by
 by_cases hk : 1 ≤ o.kind ∧ o.kind ≤ 7
 ·obtain ⟨k,hk'⟩ : ∃ k : Nat,o.kind = ((k + 1 : Nat) : Int) := ⟨(o.kind - 1).toNat,by omega⟩
  cases hq : opTab[k]? with
  | none => exact absurd (List.getElem?_eq_none_iff.1 hq) (by show ¬ 7 ≤ k;omega)
  | some q =>
   rw [opT_tab hk' hq,ORes]
   by_cases hd : OA.d ∈ q.2
   ·rw [opArgs_bad (a := .d) (by simp [opArgT];omega) _ hd]
   ·have hne : ¬ o.data = [] := fun e => by rw [e] at h;simp at h
    cases opArgsT o q.2 with
    | none => rfl
    | some ws => dsimp only;rw [if_neg (fun q => q.1.elim hne hd)]
 ·exact opT_kind hk
set_option maxHeartbeats 1000000 in
theorem rop_spec_w (o : Rn.Op) (hG : GloR h) (hv : I64 o.version) (hF : 1000 < F) : Ans (cf p (F + 6) 99 [.agg ⟨opC o⟩] h) fun v h' => Kept h h' [] ∧ RoQ (opT o) v := by
 rw [cf_step (a := a99) rfl rfl (by simp [a99])]
 have k1 := rowKept h (opC o) 0 []
 have b1 : hget (Ev.newRow h (opC o) 0 []) h.size = some (.cells (opC o) 0 true []) := by simp
 have G1 := hG.kept k1
 have eqz : Ev.newRow h [vi o.kind,vs o.place,vs o.data,vi o.version,vi o.flags] 0 [] = Ev.newRow h (opC o) 0 [] := rfl
 simp (disch := first|omega|(simp only [zS];first|done|omega)) [bB,a99,r99_0,opC]
 rw [eqz]
 generalize Ev.newRow h (opC o) 0 [] = g at *
 have no : ∀ s,opT o = none → Kept h g [] ∧ RoQ (opT o) (.tuple ⟨[vs s,.bool false]⟩) := fun s e => ⟨k1,s,false,rfl,by rw [e]⟩
 have b0 := b1
 simp only [opC] at b1
 by_cases h1 : o.kind < 1
 ·simp (disch := first|omega|(simp only [zS];first|done|omega)) [bB,r99_1,r99_2,b1,h1]
  exact Ans.of (no [] (opT_kind (by omega)))
 ·by_cases h8 : 8 ≤ o.kind
  ·simp (disch := first|omega|(simp only [zS];first|done|omega)) [bB,r99_1,r99_2,b1,h1,h8]
   exact Ans.of (no [] (opT_kind (by omega)))
  ·by_cases hp : 256 < o.place.length
   ·have hp' : (256 : Int) < o.place.length := by omega
    simp (disch := first|omega|(simp only [zS];first|done|omega)) [bB,r99_1,r99_2,b1,h1,h8,hp']
    exact Ans.of (no [] (opT_place hp))
   ·by_cases hd : 256 < o.data.length
    ·have hp' : ¬ (256 : Int) < o.place.length := by omega
     have hd' : (256 : Int) < o.data.length := by omega
     simp (disch := first|omega|(simp only [zS];first|done|omega)) [bB,r99_1,r99_2,b1,h1,h8,hp',hd']
     exact Ans.of (no [] (opT_data hd))
    ·have hp' : ¬ (256 : Int) < o.place.length := by omega
     have hd' : ¬ (256 : Int) < o.data.length := by omega
     clear no
     obtain ⟨k,hk⟩ : ∃ k : Nat,o.kind = ((k + 1 : Nat) : Int) := ⟨(o.kind - 1).toNat,by omega⟩
     cases hq : opTab[k]? with
     | none => exact absurd (List.getElem?_eq_none_iff.1 hq) (by show ¬ 7 ≤ k;omega)
     | some q =>
      obtain ⟨w,r⟩ := q
      obtain ⟨hh,hlen,hq8⟩ := opLs_head _ (List.mem_of_getElem? hq)
      have hm := Rn.opTab_len _ (List.mem_of_getElem? hq)
      rw [opT_tab hk hq]
      simp only at hh hlen hq8 hm
      have e1 := head_eq (p := p) (F := F + 4) (h := g) (w ++ 32 :: r.map oaR) (by omega) (by omega)
      rw [hh] at e1
      have hrow : ((opLs.map vs).drop (k + 1)).take 1 = [vs (w ++ 32 :: r.map oaR)] := by
       have h1 : opLs[k + 1]? = some (w ++ 32 :: r.map oaR) := by simp [opLs,hq]
       obtain ⟨h3,h4⟩ := List.getElem?_eq_some_iff.1 h1
       rw [List.drop_eq_getElem_cons (by simpa using h3)]
       simp [h4]
      have hlen8 : (opLs.map vs).length = 8 := rfl
      have hk8' : k + 1 + 1 ≤ (opLs.map vs).length := by rw [hlen8];omega
      have gl := G1.opl
      have main := rop_write (p := p) (F := F) o hv (by omega) (by omega) r hm.1 h.size hF h (Nat.le_refl _) (ORes o r [w] r) (r.length - 0) 0 [w] false false false g rfl (Nat.zero_le _) k1 b0 (by simp) (by have := hm.2;simp [joinW];omega) (by simp) (by simp) (by simp) rfl (F + 5) (by omega)
      have hj : joinW [w] = w := rfl
      rw [hj] at main
      generalize opLs.map vs = tb at *
      have gn : (3 < gN) = True := eq_true (by decide)
      rw [hk] at b1
      have h1' : ¬ (((k + 1 : Nat) : Int) < 1) := by omega
      have h8' : ¬ (8 ≤ ((k + 1 : Nat) : Int)) := by omega
      simp (disch := first|omega|(simp only [zS];first|done|omega)) [bB,r99_1,b1,h1',h8',hp',hd',r99_3,gn,gl,hrow,hk8',e1,r99_4,r99_5,r99_6,r99_7,r99_8]
      exact main
end Go.Proofs.YtnoghchcboiojaaGreatDoor
end
section
set_option maxRecDepth 100000
namespace Go.Proofs.YtnoghchcboiojaaGreatDoor
open Go.Ev
open Go.Rn (Bs opT opsT joinS)
variable {p : Bool} {F : Nat} {h : H}
theorem joinS_snoc : ∀ (acc : List Bs) (t : Bs),joinS (acc ++ [t]) = if acc = [] then t else joinS acc ++ ([32,59,32] ++ t)
 | [],t => by simp [joinS]
 | [w],t => by simp [joinS]
 | w :: y :: acc,t => by
  have e := joinS_snoc (y :: acc) t
  rw [if_neg (by simp)] at e ⊢
  show w ++ 32 :: 59 :: 32 :: joinS (y :: acc ++ [t]) = (w ++ 32 :: 59 :: 32 :: joinS (y :: acc)) ++ _
  rw [e];simp
def OsRes (acc : List Bs) (l : List Rn.Op) : Option Bs := (l.mapM opT).map fun ts => joinS (acc ++ ts)
theorem OsRes_nil (acc : List Bs) : OsRes acc [] = some (joinS acc) := by simp [OsRes]
theorem OsRes_cons (acc : List Bs) (o : Rn.Op) (l : List Rn.Op) : OsRes acc (o :: l) = match opT o with
  | some t => OsRes (acc ++ [t]) l
  | none => none := by
 unfold OsRes
 rw [List.mapM_cons]
 cases opT o with
 | none => rfl
 | some t =>
  cases l.mapM opT with
  | none => rfl
  | some ts => simp
theorem lit_semi : str32_59_32 = ofB [32,59,32] := rfl
set_option maxHeartbeats 1000000 in
theorem rops_write {ok : Nat → Prop} {v : Value} {xs : List Rn.Op} (hG : GloR h) (s : SlR ok 5 OpR h v xs) (hv : ∀ o ∈ xs,I64 o.version) (hxl : xs.length < 4398046511104) (hF : 1000 < F) : Ans (cf p (F + 7) 67 [v] h) fun w h' => Kept h h' [] ∧ RoQ (opsT xs) w := by
 rw [cf_step (a := a67) rfl rfl (by simp [a67])]
 have lx := s.len
 by_cases h4 : (4 : Int) < xs.length
 ·have e : opsT xs = none := by unfold opsT;rw [if_neg (by omega)]
  simp (disch := first|omega|(simp only [zS];first|done|omega)) [bB,a67,r67_0,r67_1,lx,h4,r67_2]
  exact Ans.of ⟨Kept.refl _ _,[],false,rfl,by rw [e]⟩
 ·simp (disch := first|omega|(simp only [zS];first|done|omega)) [bB,a67,r67_0,r67_1,lx,h4,r67_3,r67_4]
  refine loop_rule (fun m e g => ∃ (i : Nat) (acc : List Bs),i ≤ xs.length ∧ m = xs.length - i ∧ Kept h g [] ∧ e = [(0,v),(4,vs (joinS acc)),(5,vi i)] ∧ acc.length = i ∧ (joinS acc).length ≤ i * 8010 ∧ OsRes [] xs = OsRes acc (xs.drop i))
   ?_ (F + 6) (xs.length - 0) _ h (by omega) ⟨0,[],by omega,rfl,Kept.refl _ _,rfl,rfl,by simp [joinS],by simp⟩
  rintro m e g again ⟨i,acc,hi,rfl,hk,rfl,hal,hlen,hq⟩ hag
  by_cases hlt : i < xs.length
  ·obtain ⟨x,hxi⟩ : ∃ x,xs[i]? = some x := ⟨_,List.getElem?_eq_getElem hlt⟩
   obtain ⟨b,o,c,cs,es,lv,an,rfl,_,hg0,hl1,hr⟩ := s.at' hxi
   have hr : (cs.drop (o + i * 5)).take 5 = opC x := hr
   have hg := (hk.get (lt_of_get hg0) (by simp)).trans hg0
   have hlt' : (i : Int) < xs.length := by omega
   have wi : IntKind.i64.wrap ((i : Int) + 1) = (i : Int) + 1 := wrap_in (by omega) (by omega)
   have e1 := rop_spec_w (p := p) (F := F) (h := g) x (hG.kept hk) (hv x (List.mem_of_getElem? hxi)) hF
   rw [drop_at hxi,OsRes_cons] at hq
   have hres : opsT xs = OsRes [] xs := by
    unfold opsT OsRes
    rw [if_pos (by omega)];simp
   simp (disch := first|omega|(simp only [zS];first|done|omega)) [bB,l67_13,r67_5,hlt',r67_6,hg,hl1,hr]
   refine Ans.next e1 ?_
   rintro w g1 ⟨k1,t,ob,rfl,ht⟩
   have kk := hk.trans k1
   cases ho : opT x with
   | none =>
    rw [ho] at ht hq
    subst ht
    simp (disch := first|omega|(simp only [zS];first|done|omega)) [bB,r67_7,r67_8]
    exact Ans.of ⟨kk,[],false,rfl,by rw [hres,hq]⟩
   | some tx =>
    rw [ho] at ht hq
    obtain ⟨rfl,rfl⟩ := ht
    have htl := Rn.opT_len ho
    by_cases h0 : (0 : Int) < i
    ·have hne : acc ≠ [] := fun e => by rw [e] at hal;simp at hal;omega
     simp (disch := first|omega|(simp only [zS];first|done|omega)) [bB,r67_7,r67_9,h0,r67_10,lit_semi,ofB_app,r67_11,r67_12,wi]
     exact hag (xs.length - (i + 1)) [(0,_),(4,vs (joinS acc ++ 32 :: 59 :: 32 :: t)),(5,vi ((i : Int) + 1))] _ (by omega) ⟨i + 1,acc ++ [t],by omega,rfl,kk,by rw [joinS_snoc,if_neg hne];rfl,by simp [hal],by rw [joinS_snoc,if_neg hne];simp;omega,hq⟩
    ·have hne : acc = [] := by cases acc with
      | nil => rfl
      | cons a l => simp at hal;omega
     subst hne
     simp (disch := first|omega|(simp only [zS];first|done|omega)) [bB,r67_7,r67_9,h0,lit_semi,ofB_app,r67_11,r67_12,wi,joinS]
     exact hag (xs.length - (i + 1)) [(0,_),(4,vs t),(5,vi ((i : Int) + 1))] _ (by omega) ⟨i + 1,[t],by omega,rfl,kk,rfl,by simp at hal ⊢;omega,by simp [joinS];omega,hq⟩
  ·have : i = xs.length := by omega
   subst this
   rw [List.drop_eq_nil_iff.2 (Nat.le_refl _),OsRes_nil] at hq
   by_cases h0 : (0 : Int) < xs.length
   ·have hres : opsT xs = OsRes [] xs := by
     unfold opsT OsRes
     rw [if_pos (by omega)];simp
    simp (disch := first|omega|(simp only [zS];first|done|omega)) [bB,l67_13,r67_5,lx,r67_14,h0]
    exact Ans.of ⟨hk,_,_,rfl,by rw [hres,hq];simp⟩
   ·have hres : opsT xs = none := by
     unfold opsT
     rw [if_neg (by omega)]
    simp (disch := first|omega|(simp only [zS];first|done|omega)) [bB,l67_13,r67_5,lx,r67_14,h0]
    exact Ans.of ⟨hk,_,_,rfl,by rw [hres]⟩
end Go.Proofs.YtnoghchcboiojaaGreatDoor
end
section
set_option maxRecDepth 100000
namespace Go.Proofs.YtnoghchcboiojaaGreatDoor
open Go.Ev
open Go.Rn (Bs Ar St stepTab)
variable {p : Bool} {F : Nat} {h : H}
def E36b (p : Bool) (F : Nat) : K := evC (F + 8) (cxOf (cf p (F + 8)) (cfX XD) [.tmp 2,.tmp 3]) (.seq (.regionD d36_44 [] [2,3]) .ret) (endK (cfX XD) [.tmp 2,.tmp 3]) noK (endK (cfX XD) [.tmp 2,.tmp 3])
theorem E36b_eq {s : Env} {g : H} {ds : Ds} : E36b p F s g ds = evC (F + 8) (cxOf (cf p (F + 8)) (cfX XD) [.tmp 2,.tmp 3]) (.seq (.regionD d36_44 [] [2,3]) .ret) (endK (cfX XD) [.tmp 2,.tmp 3]) noK (endK (cfX XD) [.tmp 2,.tmp 3]) s g ds := nr rfl
def L36b (p : Bool) (F : Nat) (fuel : Nat) : K := loopK (F + 8) (cxOf (cf p (F + 8)) (cfX XD) [.tmp 2,.tmp 3]) [1,6,7,9,10,11,18] l36_43 (putK 3 (E36b p F) noK) (endK (cfX XD) [.tmp 2,.tmp 3]) fuel
theorem L36b_succ {n : Nat} {s : Env} {g : H} {ds : Ds} : L36b p F (n + 1) s g ds = evC (F + 8) (cxOf (cf p (F + 8)) (cfX XD) [.tmp 2,.tmp 3]) l36_43 (keepK [1,6,7,9,10,11,18] (L36b p F n)) (putK 3 (E36b p F) noK) (endK (cfX XD) [.tmp 2,.tmp 3]) s g ds := loopK_succ
def C3 (s : St) (pb ab : Bool) : Prop := (s.place = [] ∨ pb = true) ∧ (s.ops = [] ∨ ab = true)
instance (s : St) (pb ab : Bool) : Decidable (C3 s pb ab) := by unfold C3;exact inferInstance
section
variable {s : St} {ov : Value} {h0 g : H} {B1 B7 : Nat} {t : Bs} {pb kb ab : Bool} {res : Option Bs}
def sb (B1 B7 : Nat) (t : Bs) (pb kb ab : Bool) (i : Int) : Env := [(1,.pointer (some ⟨B1,0,none⟩)),(6,vs t),(7,.pointer (some ⟨B7,0,none⟩)),(9,.bool pb),(10,.bool kb),(11,.bool ab),(18,vi i)]
theorem rst_e3 (hl : lenV ov = some (.int .i64 s.ops.length)) (hk : Kept h0 g []) (g1 : hget g B1 = some (.cells (stC s ov) 0 true [])) (hres : res = if C3 s pb ab then some t else none) (fuel : Nat) (hf : 0 < fuel) :
  Ans (L36b p F fuel (sb B1 B7 t pb kb ab 3) g []) fun w h' => Kept h0 h' [] ∧ RoQ res w := by
 obtain ⟨fuel,rfl⟩ : ∃ f',fuel = f' + 1 := ⟨fuel - 1,by omega⟩
 rw [L36b_succ]
 unfold sb
 simp (disch := first|omega|(simp only [zS];first|done|omega)) [bB,l36_43,r36_39]
 rw [E36b_eq]
 have fin : ∀ b : Bool,b = ((pb || decide (s.place = [])) && (ab || decide (s.ops = []))) → Kept h0 g [] ∧ RoQ res (.tuple ⟨[vs t,.bool b]⟩) := fun b hb =>
  ⟨hk,roQ_of hres (by
   rw [hb]
   by_cases h1 : s.place = [] <;> by_cases h2 : s.ops = [] <;> cases pb <;> cases ab <;> simp [C3,h1,h2])⟩
 have hz1 : (ofB s.place == { data := #[] }) = decide (s.place = []) := ofB_beq s.place []
 have hlz : ((s.ops.length : Int) == 0) = decide (s.ops = []) := by
  cases s.ops with
  | nil => rfl
  | cons a l => simp;omega
 simp only [stC] at g1
 have dF : pb = true ∨ (pb = false ∧ s.place = []) ∨ (pb = false ∧ ¬ s.place = []) := by by_cases h : s.place = [] <;> cases pb <;> simp [h]
 have aF : ab = true ∨ ab = false := by cases ab <;> simp
 rcases dF with rfl | ⟨rfl,hd⟩ | ⟨rfl,hd⟩
 ·rcases aF with rfl | rfl
  ·simp (disch := first|omega|(simp only [zS];first|done|omega)) [bB,d36_44,g1,dk_go,chks_nil,chks_cons,chkA_nil,chkA_cons,chk1_no,chk1_yes,chkV_some,hAt_eq,hOf_some,hOf_none,sameV,sameL,sameCell]
   exact Ans.of (fin _ (by simp))
  ·simp (disch := first|omega|(simp only [zS];first|done|omega)) [bB,d36_44,g1,dk_go,chks_nil,chks_cons,chkA_nil,chkA_cons,chk1_no,chk1_yes,chkV_some,hAt_eq,hOf_some,hOf_none,sameV,sameL,sameCell,hl]
   exact Ans.of (fin _ (by simp [hlz]))
 ·rw [decide_eq_true hd] at hz1
  rcases aF with rfl | rfl
  ·simp (disch := first|omega|(simp only [zS];first|done|omega)) [bB,d36_44,g1,dk_go,chks_nil,chks_cons,chkA_nil,chkA_cons,chk1_no,chk1_yes,chkV_some,hAt_eq,hOf_some,hOf_none,sameV,sameL,sameCell,hz1]
   exact Ans.of (fin _ (by simp [hd]))
  ·simp (disch := first|omega|(simp only [zS];first|done|omega)) [bB,d36_44,g1,dk_go,chks_nil,chks_cons,chkA_nil,chkA_cons,chk1_no,chk1_yes,chkV_some,hAt_eq,hOf_some,hOf_none,sameV,sameL,sameCell,hz1,hl]
   exact Ans.of (fin _ (by simp [hd,hlz]))
 ·rw [decide_eq_false hd] at hz1
  simp (disch := first|omega|(simp only [zS];first|done|omega)) [bB,d36_44,g1,dk_go,chks_nil,chks_cons,chkA_nil,chkA_cons,chk1_no,chk1_yes,chkV_some,hAt_eq,hOf_some,hOf_none,sameV,sameL,sameCell,hz1]
  exact Ans.of (fin _ (by simp [hd]))
theorem rst_e2 (hl : lenV ov = some (.int .i64 s.ops.length)) (hk : Kept h0 g []) (g1 : hget g B1 = some (.cells (stC s ov) 0 true [])) (g7 : hget g B7 = some (.cells [vi s.a,vi s.b,vi s.c] 0 true [])) (hres : res = if s.c = 0 ∧ C3 s pb ab then some t else none) (fuel : Nat) (hf : 1 < fuel) :
  Ans (L36b p F fuel (sb B1 B7 t pb kb ab 2) g []) fun w h' => Kept h0 h' [] ∧ RoQ res w := by
 obtain ⟨fuel,rfl⟩ : ∃ f',fuel = f' + 1 := ⟨fuel - 1,by omega⟩
 have wi : IntKind.i64.wrap 3 = 3 := rfl
 rw [L36b_succ]
 unfold sb
 by_cases hc : s.c = 0
 ·have hcb : (s.c != 0) = false := by simp [hc]
  simp (disch := first|omega|(simp only [zS];first|done|omega)) [bB,l36_43,r36_39,r36_40,g7,hcb,r36_42,wi]
  exact rst_e3 (B7 := B7) (kb := kb) hl hk g1 (by rw [hres];simp [hc]) fuel (by omega)
 ·have hcb : (s.c != 0) = true := by simp [hc]
  cases kb <;> simp (disch := first|omega|(simp only [zS];first|done|omega)) [bB,l36_43,r36_39,r36_40,g7,hcb,r36_41]
  all_goals exact Ans.of ⟨hk,[],false,rfl,by rw [hres,if_neg (fun q => hc q.1)]⟩
theorem rst_e1 (hl : lenV ov = some (.int .i64 s.ops.length)) (hk : Kept h0 g []) (g1 : hget g B1 = some (.cells (stC s ov) 0 true [])) (g7 : hget g B7 = some (.cells [vi s.a,vi s.b,vi s.c] 0 true [])) (hres : res = if (s.b = 0 ∨ kb = true) ∧ s.c = 0 ∧ C3 s pb ab then some t else none) (fuel : Nat) (hf : 2 < fuel) :
  Ans (L36b p F fuel (sb B1 B7 t pb kb ab 1) g []) fun w h' => Kept h0 h' [] ∧ RoQ res w := by
 obtain ⟨fuel,rfl⟩ : ∃ f',fuel = f' + 1 := ⟨fuel - 1,by omega⟩
 have wi : IntKind.i64.wrap 2 = 2 := rfl
 rw [L36b_succ]
 unfold sb
 by_cases hc : s.b = 0
 ·have hcb : (s.b != 0) = false := by simp [hc]
  simp (disch := first|omega|(simp only [zS];first|done|omega)) [bB,l36_43,r36_39,r36_40,g7,hcb,r36_42,wi]
  exact rst_e2 (B7 := B7) (kb := kb) hl hk g1 g7 (by rw [hres];simp [hc]) fuel (by omega)
 ·have hcb : (s.b != 0) = true := by simp [hc]
  cases kb with
  | false =>
   simp (disch := first|omega|(simp only [zS];first|done|omega)) [bB,l36_43,r36_39,r36_40,g7,hcb,r36_41]
   exact Ans.of ⟨hk,[],false,rfl,by rw [hres,if_neg (fun q => by simpa [hc] using q.1)]⟩
  | true =>
   simp (disch := first|omega|(simp only [zS];first|done|omega)) [bB,l36_43,r36_39,r36_40,g7,hcb,r36_42,wi]
   exact rst_e2 (B7 := B7) (kb := true) hl hk g1 g7 (by rw [hres];simp) fuel (by omega)
theorem rst_e0 (hl : lenV ov = some (.int .i64 s.ops.length)) (hk : Kept h0 g []) (g1 : hget g B1 = some (.cells (stC s ov) 0 true [])) (g7 : hget g B7 = some (.cells [vi s.a,vi s.b,vi s.c] 0 true [])) (hres : res = if s.a = 0 ∧ (s.b = 0 ∨ kb = true) ∧ s.c = 0 ∧ C3 s pb ab then some t else none) (fuel : Nat) (hf : 3 < fuel) :
  Ans (L36b p F fuel (sb B1 B7 t pb kb ab 0) g []) fun w h' => Kept h0 h' [] ∧ RoQ res w := by
 obtain ⟨fuel,rfl⟩ : ∃ f',fuel = f' + 1 := ⟨fuel - 1,by omega⟩
 have wi : IntKind.i64.wrap 1 = 1 := rfl
 rw [L36b_succ]
 unfold sb
 by_cases hc : s.a = 0
 ·have hcb : (s.a != 0) = false := by simp [hc]
  simp (disch := first|omega|(simp only [zS];first|done|omega)) [bB,l36_43,r36_39,r36_40,g7,hcb,r36_42,wi]
  exact rst_e1 (B7 := B7) (kb := kb) hl hk g1 g7 (by rw [hres];simp [hc]) fuel (by omega)
 ·have hcb : (s.a != 0) = true := by simp [hc]
  cases kb <;> simp (disch := first|omega|(simp only [zS];first|done|omega)) [bB,l36_43,r36_39,r36_40,g7,hcb,r36_41]
  all_goals exact Ans.of ⟨hk,[],false,rfl,by rw [hres,if_neg (fun q => hc q.1)]⟩
theorem rst_en (hl : lenV ov = some (.int .i64 s.ops.length)) (hk : Kept h0 g []) (g1 : hget g B1 = some (.cells (stC s ov) 0 true [])) (g7 : hget g B7 = some (.cells [vi s.a,vi s.b,vi s.c] 0 true [])) (n : Nat) (hn : n ≤ 3)
  (hres : res = if (1 ≤ n ∨ s.a = 0) ∧ (2 ≤ n ∨ s.b = 0 ∨ kb = true) ∧ (3 ≤ n ∨ s.c = 0) ∧ C3 s pb ab then some t else none) (fuel : Nat) (hf : 3 < fuel) :
  Ans (L36b p F fuel (sb B1 B7 t pb kb ab n) g []) fun w h' => Kept h0 h' [] ∧ RoQ res w := by
 have h3 : n = 0 ∨ n = 1 ∨ n = 2 ∨ n = 3 := by omega
 rcases h3 with rfl | rfl | rfl | rfl
 ·exact rst_e0 hl hk g1 g7 (by rw [hres];simp) fuel hf
 ·exact rst_e1 hl hk g1 g7 (by rw [hres];simp) fuel (by omega)
 ·exact rst_e2 hl hk g1 g7 (by rw [hres];simp) fuel (by omega)
 ·exact rst_e3 hl hk g1 (by rw [hres];simp) fuel (by omega)
end
end Go.Proofs.YtnoghchcboiojaaGreatDoor
end
section
set_option maxRecDepth 100000
namespace Go.Proofs.YtnoghchcboiojaaGreatDoor
open Go.Ev
open Go.Rn (Bs Ar St stepTab argT stT joinW numT kindT opsT placed w_node w_kids w_subtree)
variable {p : Bool} {F : Nat} {h : H}
def isNum : Ar → Bool
 | .a => true
 | .b => true
 | .c => true
 | _ => false
def nN (l : List Ar) : Nat := l.countP isNum
def tabAt (l : List Ar) (i : Nat) : Option Ar → Bool
 | some .a => nN (l.take i) == 0
 | some .b => nN (l.take i) == 1
 | some .c => nN (l.take i) == 2
 | _ => true
theorem tab_at : ∀ q ∈ stepTab,∀ i < 3,tabAt q.2 i q.2[i]? = true := by decide
theorem tab_end : ∀ q ∈ stepTab,nN q.2 ≤ 3 ∧ (Ar.a ∈ q.2 ↔ 1 ≤ nN q.2) ∧ (Ar.b ∈ q.2 ↔ 2 ≤ nN q.2) ∧ (Ar.c ∈ q.2 ↔ 3 ≤ nN q.2) := by decide
def SC (s : St) (r : List Ar) : Prop := (s.a = 0 ∨ .a ∈ r) ∧ (s.b = 0 ∨ .b ∈ r ∨ .k ∈ r) ∧ (s.c = 0 ∨ .c ∈ r) ∧ (s.place = [] ∨ .p ∈ r) ∧ (s.ops = [] ∨ .o ∈ r)
instance (s : St) (r : List Ar) : Decidable (SC s r) := by unfold SC;exact inferInstance
def SRes (s : St) (all : List Ar) (acc : List Bs) (l : List Ar) : Option Bs := match l.mapM (argT s) with
 | none => none
 | some ws => if SC s all then some (joinW (acc ++ ws)) else none
theorem SRes_nil (s : St) (all : List Ar) (acc : List Bs) : SRes s all acc [] = if SC s all then some (joinW acc) else none := by simp [SRes]
theorem SRes_bad {s : St} {all l : List Ar} {acc : List Bs} {y : Ar} (h : argT s y = none) : SRes s all acc (y :: l) = none := by
 unfold SRes;rw [List.mapM_cons,h];rfl
theorem SRes_ok {s : St} {all l : List Ar} {acc : List Bs} {x : Bs} {y : Ar} (h : argT s y = some x) : SRes s all acc (y :: l) = SRes s all (acc ++ [x]) l := by
 unfold SRes
 rw [List.mapM_cons,h]
 cases l.mapM (argT s) with
 | none => rfl
 | some ws => simp [List.append_assoc]
def E36 (p : Bool) (F : Nat) : K := evC (F + 8) (cxOf (cf p (F + 8)) (cfX XD) [.tmp 2,.tmp 3]) (.seq (.seq (.region r36_38 [1,6,7,9,10,11,18]) (.block 3 (.loop [1,6,7,9,10,11,18] l36_43))) (.seq (.regionD d36_44 [] [2,3]) .ret)) (endK (cfX XD) [.tmp 2,.tmp 3]) noK (endK (cfX XD) [.tmp 2,.tmp 3])
theorem E36_eq {s : Env} {g : H} {ds : Ds} : E36 p F s g ds = evC (F + 8) (cxOf (cf p (F + 8)) (cfX XD) [.tmp 2,.tmp 3]) (.seq (.seq (.region r36_38 [1,6,7,9,10,11,18]) (.block 3 (.loop [1,6,7,9,10,11,18] l36_43))) (.seq (.regionD d36_44 [] [2,3]) .ret)) (endK (cfX XD) [.tmp 2,.tmp 3]) noK (endK (cfX XD) [.tmp 2,.tmp 3]) s g ds := nr rfl
def L36 (p : Bool) (F : Nat) (fuel : Nat) : K := loopK (F + 8) (cxOf (cf p (F + 8)) (cfX XD) [.tmp 2,.tmp 3]) [1,5,6,7,8,9,10,11,12] l36_37 (putK 0 (E36 p F) noK) (endK (cfX XD) [.tmp 2,.tmp 3]) fuel
theorem L36_succ {n : Nat} {s : Env} {g : H} {ds : Ds} : L36 p F (n + 1) s g ds = evC (F + 8) (cxOf (cf p (F + 8)) (cfX XD) [.tmp 2,.tmp 3]) l36_37 (keepK [1,5,6,7,8,9,10,11,12] (L36 p F n)) (putK 0 (E36 p F) noK) (endK (cfX XD) [.tmp 2,.tmp 3]) s g ds := loopK_succ
theorem lit_kinds : str110_111_100_101 = ofB w_node ∧ str107_105_100_115 = ofB w_kids ∧ str115_117_98_116_114_101_101 = ofB w_subtree := ⟨rfl,rfl,rfl⟩
theorem memS_take {l : List Ar} {q : Nat} {y : Ar} (ha : l[q]? = some y) (z : Ar) : decide (z ∈ l.take (q + 1)) = (decide (z ∈ l.take q) || decide (z = y)) := by
 rw [List.take_add_one,ha]
 simp
theorem nN_take {l : List Ar} {q : Nat} {y : Ar} (ha : l[q]? = some y) : nN (l.take (q + 1)) = nN (l.take q) + if isNum y then 1 else 0 := by
 unfold nN
 rw [List.take_add_one,ha,List.countP_append]
 congr 1
 cases y <;> rfl
def StN (s : St) : Prop := I64 s.a ∧ I64 s.b ∧ I64 s.c ∧ ∀ o ∈ s.ops,I64 o.version
def sa (B1 B7 : Nat) (l : List Ar) (t : Bs) (n : Int) (pb kb ab : Bool) (q : Int) : Env := [(1,.pointer (some ⟨B1,0,none⟩)),(5,vs (l.map arR)),(6,vs t),(7,.pointer (some ⟨B7,0,none⟩)),(8,vi n),(9,.bool pb),(10,.bool kb),(11,.bool ab),(12,vi q)]
theorem itoa_of {n : Int} {t : Bs} (hp : numT n = some t) : Lib.itoa n = t := by
 unfold numT at hp
 split at hp
 ·exact Option.some.inj hp
 ·cases hp
set_option maxHeartbeats 2000000 in
theorem rst_write {ok : Nat → Prop} (s : St) (ov : Value) (hs : StN s) (w : Bs) (l : List Ar) (hm : (w,l) ∈ stepTab) (B1 B7 : Nat) (hF : 1000 < F) (h0 : H) (hG : GloR h0) (hov : SlR ok 5 OpR h0 ov s.ops) (hol : s.ops.length < 4398046511104) (hb1 : h0.size ≤ B1) (hb7 : h0.size ≤ B7) (res : Option Bs) :
  ∀ (m : Nat) (q : Nat) (acc : List Bs) (n : Nat) (pb kb ab : Bool) (g : H),m = l.length - q → q ≤ l.length → Kept h0 g [] → hget g B1 = some (.cells (stC s ov) 0 true []) → hget g B7 = some (.cells [vi s.a,vi s.b,vi s.c] 0 true []) → acc ≠ [] → (joinW acc).length ≤ 100 + q * 41000 →
   n = nN (l.take q) → pb = decide (Ar.p ∈ l.take q) → kb = decide (Ar.k ∈ l.take q) → ab = decide (Ar.o ∈ l.take q) → res = SRes s l acc (l.drop q) →
   ∀ fuel,m < fuel → Ans (L36 p F fuel (sa B1 B7 l (joinW acc) n pb kb ab q) g []) fun w h' => Kept h0 h' [] ∧ RoQ res w := by
 have hl3 : l.length ≤ 3 := (Rn.stepTab_len _ hm).1
 intro m
 induction m with
 | zero =>
  intro q acc n pb kb ab g hm' hq hk g1 g7 hne hal hn hpb hkb hab hres fuel hfu
  obtain ⟨fuel,rfl⟩ : ∃ f',fuel = f' + 1 := ⟨fuel - 1,by omega⟩
  have e : q = l.length := by omega
  subst e
  rw [List.drop_eq_nil_iff.2 (Nat.le_refl _),SRes_nil] at hres
  rw [List.take_length] at hpb hkb hab hn
  obtain ⟨t1,t2,t3,t4⟩ := tab_end _ hm
  simp only at t1 t2 t3 t4
  rw [← hn] at t1 t2 t3 t4
  have main := rst_en (p := p) (F := F) (B7 := B7) (t := joinW acc) (pb := pb) (kb := kb) (ab := ab) (res := res) hov.len hk g1 g7 n t1 (by
   rw [hres]
   have : SC s l ↔ ((1 ≤ n ∨ s.a = 0) ∧ (2 ≤ n ∨ s.b = 0 ∨ kb = true) ∧ (3 ≤ n ∨ s.c = 0) ∧ C3 s pb ab) := by
    unfold SC C3
    rw [t2,t3,t4,hpb,hkb,hab]
    simp only [decide_eq_true_eq]
    constructor
    ·rintro ⟨x1,x2,x3,x4,x5⟩
     exact ⟨x1.symm,by rcases x2 with x | x | x <;> simp [x],x3.symm,x4,x5⟩
    ·rintro ⟨x1,x2,x3,x4,x5⟩
     exact ⟨x1.symm,by rcases x2 with x | x | x <;> simp [x],x3.symm,x4,x5⟩
   by_cases hc : SC s l
   ·rw [if_pos hc,if_pos (this.1 hc)]
   ·rw [if_neg hc,if_neg (fun q => hc (this.2 q))]) (F + 8) (by omega)
  rw [L36_succ]
  unfold sa
  simp (disch := first|omega|(simp only [zS];first|done|omega)) [bB,l36_37,r36_11]
  rw [E36_eq]
  simp (disch := first|omega|(simp only [zS];first|done|omega)) [bB,r36_38]
  exact main
 | succ m ih =>
  intro q acc n pb kb ab g hm' hq hk g1 g7 hne hal hn hpb hkb hab hres fuel hfu
  obtain ⟨fuel,rfl⟩ : ∃ f',fuel = f' + 1 := ⟨fuel - 1,by omega⟩
  obtain ⟨y,ha⟩ : ∃ y,l[q]? = some y := ⟨_,List.getElem?_eq_getElem (by omega)⟩
  have hq' := (List.getElem?_eq_some_iff.1 ha).1
  have hqi : (q : Int) < l.length := by omega
  have c1 : atS (ofB (l.map arR)) (q : Int) g = some (.int .u8 (arR y).toNat,g) := atS_ofB (by rw [List.getElem?_map,ha];rfl)
  rw [drop_at ha] at hres
  have hs1 := lt_of_get g1
  have tat := tab_at _ hm q (by omega)
  rw [ha] at tat
  have wi : IntKind.i64.wrap ((q : Int) + 1) = (q : Int) + 1 := wrap_in (by omega) (by omega)
  have bad : ∀ g' t,argT s y = none → Kept h0 g' [] → Kept h0 g' [] ∧ RoQ res (.tuple ⟨[vs t,.bool false]⟩) := fun g' t hb k => ⟨k,t,false,rfl,by rw [hres,SRes_bad hb]⟩
  have go : ∀ (x : Bs) (t : Bs) (n' : Int) (p' k' a' : Bool) (g' : H),argT s y = some x → t = joinW acc ++ 32 :: x → x.length ≤ 40000 → n' = ((n + if isNum y then 1 else 0 : Nat) : Int) → p' = (pb || decide (Ar.p = y)) → k' = (kb || decide (Ar.k = y)) → a' = (ab || decide (Ar.o = y)) → Kept h0 g' [] → hget g' B1 = some (.cells (stC s ov) 0 true []) → hget g' B7 = some (.cells [vi s.a,vi s.b,vi s.c] 0 true []) →
    Ans (L36 p F fuel (sa B1 B7 l t n' p' k' a' ((q : Int) + 1)) g' []) fun w h' => Kept h0 h' [] ∧ RoQ res w := by
   intro x t n' p' k' a' g' e1 e2 ebl e3 e4 e5 e6 k e7 e8
   have e2' : t = joinW (acc ++ [x]) := by rw [e2,joinW_app _ _ hne];simp
   have el : t.length = (joinW acc).length + 1 + x.length := by rw [e2];simp;omega
   subst e3
   rw [e2'] at el ⊢
   exact ih (q + 1) (acc ++ [x]) _ p' k' a' g' (by omega) (by omega) k e7 e8 (by simp) (by omega) (by rw [nN_take ha,hn]) (by rw [e4,hpb,memS_take ha]) (by rw [e5,hkb,memS_take ha]) (by rw [e6,hab,memS_take ha]) (by rw [hres,SRes_ok e1]) fuel (by omega)
  have G := hG.kept hk
  have hn3 : n ≤ 3 := by
   rw [hn]
   have := List.countP_le_length (p := isNum) (l := l.take q)
   rw [List.length_take] at this
   unfold nN
   omega
  have wn : IntKind.i64.wrap ((n : Int) + 1) = (n : Int) + 1 := wrap_in (by omega) (by omega)
  have h0s : h0.size ≤ g.size := hk.1
  have g1c := g1
  simp only [stC] at g1c
  rw [L36_succ]
  unfold sa
  cases y with
  | a =>
   have hn0 : n = 0 := by rw [hn];simpa [tabAt] using tat
   subst hn0
   have e3 := rnum_eq (p := p) (F := F + 6) (h := g) s.a hs.1.1 hs.1.2
   cases hp : numT s.a with
   | none =>
    rw [hp] at e3
    simp (disch := first|omega|(simp only [zS];first|done|omega)) [bB,l36_37,r36_11,hqi,r36_12,c1,arR,r36_13,r36_14,g7,e3,r36_15,r36_16]
    exact Ans.of (bad _ [] (by simp [argT,hp]) hk)
   | some t =>
    rw [hp,itoa_of hp] at e3
    have htl := Rn.numT_len hp
    simp (disch := first|omega|(simp only [zS];first|done|omega)) [bB,l36_37,r36_11,hqi,r36_12,c1,arR,r36_13,r36_14,g7,e3,r36_15,r36_17,r36_18,l_blank,ofB_app,r36_36,wi,wn]
    exact go t (joinW acc ++ 32 :: t) 1 pb kb ab g (by simp [argT,hp]) rfl (by omega) (by simp [isNum]) (by simp) (by simp) (by simp) hk g1 g7
  | b =>
   have hn0 : n = 1 := by rw [hn];simpa [tabAt] using tat
   subst hn0
   have e3 := rnum_eq (p := p) (F := F + 6) (h := g) s.b hs.2.1.1 hs.2.1.2
   cases hp : numT s.b with
   | none =>
    rw [hp] at e3
    simp (disch := first|omega|(simp only [zS];first|done|omega)) [bB,l36_37,r36_11,hqi,r36_12,c1,arR,r36_13,r36_14,g7,e3,r36_15,r36_16]
    exact Ans.of (bad _ [] (by simp [argT,hp]) hk)
   | some t =>
    rw [hp,itoa_of hp] at e3
    have htl := Rn.numT_len hp
    simp (disch := first|omega|(simp only [zS];first|done|omega)) [bB,l36_37,r36_11,hqi,r36_12,c1,arR,r36_13,r36_14,g7,e3,r36_15,r36_17,r36_18,l_blank,ofB_app,r36_36,wi,wn]
    exact go t (joinW acc ++ 32 :: t) 2 pb kb ab g (by simp [argT,hp]) rfl (by omega) (by simp [isNum]) (by simp) (by simp) (by simp) hk g1 g7
  | c =>
   have hn0 : n = 2 := by rw [hn];simpa [tabAt] using tat
   subst hn0
   have e3 := rnum_eq (p := p) (F := F + 6) (h := g) s.c hs.2.2.1.1 hs.2.2.1.2
   cases hp : numT s.c with
   | none =>
    rw [hp] at e3
    simp (disch := first|omega|(simp only [zS];first|done|omega)) [bB,l36_37,r36_11,hqi,r36_12,c1,arR,r36_13,r36_14,g7,e3,r36_15,r36_16]
    exact Ans.of (bad _ [] (by simp [argT,hp]) hk)
   | some t =>
    rw [hp,itoa_of hp] at e3
    have htl := Rn.numT_len hp
    simp (disch := first|omega|(simp only [zS];first|done|omega)) [bB,l36_37,r36_11,hqi,r36_12,c1,arR,r36_13,r36_14,g7,e3,r36_15,r36_17,r36_18,l_blank,ofB_app,r36_36,wi,wn]
    exact go t (joinW acc ++ 32 :: t) 3 pb kb ab g (by simp [argT,hp]) rfl (by omega) (by simp [isNum]) (by simp) (by simp) (by simp) hk g1 g7
  | p =>
   by_cases hp : s.place.length ≤ 256
   ·have e3 := rplace_eq (p := p) (F := F + 5) (h := g) s.place (by omega) (by omega)
    have hpb := Rn.placed_len s.place
    have hp' : ¬ (256 : Int) < s.place.length := by omega
    simp (disch := first|omega|(simp only [zS];first|done|omega)) [bB,l36_37,r36_11,hqi,r36_12,c1,arR,r36_13,r36_19,r36_20,g1c,hp',r36_22,r36_23,e3,l_blank,ofB_app,r36_36,wi]
    exact go (placed s.place) (joinW acc ++ 32 :: placed s.place) n true kb ab g (by simp [argT,hp]) rfl (by omega) (by simp [isNum]) (by simp) (by simp) (by simp) hk g1 g7
   ·have hp' : (256 : Int) < s.place.length := by omega
    simp (disch := first|omega|(simp only [zS];first|done|omega)) [bB,l36_37,r36_11,hqi,r36_12,c1,arR,r36_13,r36_19,r36_20,g1c,hp',r36_21]
    exact Ans.of (bad _ [] (by simp [argT,hp]) hk)
  | k =>
   have kr := rowKept g [.string { data := #[] },.string (ofB w_node),.string (ofB w_kids),.string (ofB w_subtree)] 1 []
   have g1' := (kr.get hs1 (by simp)).trans g1
   have g7' := (kr.get (lt_of_get g7) (by simp)).trans g7
   have hA : hget (Ev.newRow g [.string { data := #[] },.string (ofB w_node),.string (ofB w_kids),.string (ofB w_subtree)] 1 []) g.size = some (.cells [.string { data := #[] },.string (ofB w_node),.string (ofB w_kids),.string (ofB w_subtree)] 1 true []) := by simp
   have kk := hk.trans kr
   have lb : w_node.length = 4 ∧ w_kids.length = 4 ∧ w_subtree.length = 7 := ⟨rfl,rfl,rfl⟩
   simp (disch := first|omega|(simp only [zS];first|done|omega)) [bB,l36_37,r36_11,hqi,r36_12,c1,arR,r36_13,r36_19,r36_24,r36_25,lit_kinds]
   generalize Ev.newRow g [.string { data := #[] },.string (ofB w_node),.string (ofB w_kids),.string (ofB w_subtree)] 1 [] = g2 at *
   have hA : hget g2 g.size = some (.cells [vs [],vs w_node,vs w_kids,vs w_subtree] 1 true []) := hA
   clear kr
   have g2c := g1'
   by_cases hp : s.b = 1 ∨ s.b = 2 ∨ s.b = 3
   ·rcases hp with hf | hf | hf
    ·simp only [stC,hf] at g2c
     simp (disch := first|omega|(simp only [zS];first|done|omega)) [bB,r36_26,r36_28,r36_29,g2c,hA,l_blank,ofB_app,r36_36,wi,lb]
     exact go w_node (joinW acc ++ 32 :: w_node) n pb true ab g2 (by simp [argT,kindT,hf]) rfl (by simp [lb]) (by simp [isNum]) (by simp) (by simp) (by simp) kk g1' g7'
    ·simp only [stC,hf] at g2c
     simp (disch := first|omega|(simp only [zS];first|done|omega)) [bB,r36_26,r36_28,r36_29,g2c,hA,l_blank,ofB_app,r36_36,wi,lb]
     exact go w_kids (joinW acc ++ 32 :: w_kids) n pb true ab g2 (by simp [argT,kindT,hf]) rfl (by simp [lb]) (by simp [isNum]) (by simp) (by simp) (by simp) kk g1' g7'
    ·simp only [stC,hf] at g2c
     simp (disch := first|omega|(simp only [zS];first|done|omega)) [bB,r36_26,r36_28,r36_29,g2c,hA,l_blank,ofB_app,r36_36,wi,lb]
     exact go w_subtree (joinW acc ++ 32 :: w_subtree) n pb true ab g2 (by simp [argT,kindT,hf]) rfl (by simp [lb]) (by simp [isNum]) (by simp) (by simp) (by simp) kk g1' g7'
   ·have hbad : argT s .k = none := by simp only [argT,kindT];rw [if_neg (by omega),if_neg (by omega),if_neg (by omega)]
    simp only [stC] at g2c
    by_cases hb1' : s.b < 1
    ·simp (disch := first|omega|(simp only [zS];first|done|omega)) [bB,r36_26,r36_27,g2c,hb1']
     exact Ans.of (bad _ [] hbad kk)
    ·have hb2' : (3 : Int) < s.b := by omega
     simp (disch := first|omega|(simp only [zS];first|done|omega)) [bB,r36_26,r36_27,g2c,hb1',hb2']
     exact Ans.of (bad _ [] hbad kk)
  | o =>
   have hov' : SlR ok 5 OpR g ov s.ops := hov.imp (fun _ _ q => q) (fun _ _ _ q => q) fun b cs _ hb => by
    obtain ⟨es,lv,an,hg⟩ := cel_inv hb
    exact cel_of ((hk.get (lt_of_get hg) (by simp)).trans hg)
   have e1 := rops_write (p := p) (F := F + 1) (h := g) G hov' hs.2.2.2 hol (by omega)
   simp (disch := first|omega|(simp only [zS];first|done|omega)) [bB,l36_37,r36_11,hqi,r36_12,c1,arR,r36_13,r36_19,r36_24,r36_30,r36_31,g1c]
   refine Ans.next e1 ?_
   rintro v2 g2 ⟨k2,t,ob,rfl,ht⟩
   have kk := hk.trans k2
   have g1' := (k2.get hs1 (by simp)).trans g1
   have g7' := (k2.get (lt_of_get g7) (by simp)).trans g7
   cases hp : opsT s.ops with
   | none =>
    rw [hp] at ht
    subst ht
    simp (disch := first|omega|(simp only [zS];first|done|omega)) [bB,r36_32,r36_33]
    exact Ans.of (bad _ [] (by simp [argT,hp]) kk)
   | some x =>
    rw [hp] at ht
    obtain ⟨rfl,rfl⟩ := ht
    have htl := Rn.opsT_len hp
    simp (disch := first|omega|(simp only [zS];first|done|omega)) [bB,r36_32,r36_34,r36_35,l_blank,ofB_app,r36_36,wi]
    exact go t (joinW acc ++ 32 :: t) n pb kb true g2 (by simp [argT,hp]) rfl (by omega) (by simp [isNum]) (by simp) (by simp) (by simp) kk g1' g7'
theorem stT_kind {s : St} (h : ¬ (1 ≤ s.kind ∧ s.kind ≤ 16)) : stT s = none := by unfold stT;rw [if_neg h]
theorem stT_tab {s : St} {k : Nat} {w : Bs} {r : List Ar} (hk : s.kind = ((k + 1 : Nat) : Int)) (hq : stepTab[k]? = some (w,r)) : stT s = SRes s r [w] r := by
 have hl : k < 16 := (List.getElem?_eq_some_iff.1 hq).1
 unfold stT SRes
 rw [if_pos (by omega)]
 have e : s.kind.toNat - 1 = k := by omega
 rw [e,hq]
 dsimp only
 cases r.mapM (argT s) with
 | none => simp
 | some ws =>
  by_cases q : SC s r
  ·have q' := q
   unfold SC at q'
   rw [if_pos q']
   dsimp only
   rw [if_pos q];rfl
  ·have q' := q
   unfold SC at q'
   rw [if_neg q']
   dsimp only
   rw [if_neg q]
set_option maxHeartbeats 1000000 in
theorem rstep_w {ok : Nat → Prop} (s : St) (ov : Value) (hG : GloR h) (hs : StN s) (hov : SlR ok 5 OpR h ov s.ops) (hol : s.ops.length < 4398046511104) (hF : 1000 < F) : Ans (cf p (F + 9) 36 [.agg ⟨stC s ov⟩] h) fun v h' => Kept h h' [] ∧ RoQ (stT s) v := by
 rw [cf_step (a := a36) rfl rfl (by simp [a36])]
 have k1 := rowKept h (stC s ov) 0 []
 have b1 : hget (Ev.newRow h (stC s ov) 0 []) h.size = some (.cells (stC s ov) 0 true []) := by simp
 have G1 := hG.kept k1
 have z1 : (Ev.newRow h (stC s ov) 0 []).size = h.size + 1 := by simp
 have eqz : Ev.newRow h [vi s.kind,vi s.a,vi s.b,vi s.c,vs s.place,ov] 0 [] = Ev.newRow h (stC s ov) 0 [] := rfl
 have one := hov.one
 have hvc := hov.vc
 simp (disch := first|omega|(simp only [zS];first|done|omega)) [bB,a36,r36_0,stC,one]
 rw [eqz]
 generalize Ev.newRow h (stC s ov) 0 [] = g at *
 have no : ∀ t,stT s = none → Kept h g [] ∧ RoQ (stT s) (.tuple ⟨[vs t,.bool false]⟩) := fun t e => ⟨k1,t,false,rfl,by rw [e]⟩
 have b0 := b1
 simp only [stC] at b1
 by_cases h1 : s.kind < 1
 ·simp (disch := first|omega|(simp only [zS];first|done|omega)) [bB,r36_1,r36_2,b1,h1]
  exact Ans.of (no [] (stT_kind (by omega)))
 ·by_cases h8 : 17 ≤ s.kind
  ·simp (disch := first|omega|(simp only [zS];first|done|omega)) [bB,r36_1,r36_2,b1,h1,h8]
   exact Ans.of (no [] (stT_kind (by omega)))
  ·clear no
   obtain ⟨k,hk⟩ : ∃ k : Nat,s.kind = ((k + 1 : Nat) : Int) := ⟨(s.kind - 1).toNat,by omega⟩
   cases hq : stepTab[k]? with
   | none => exact absurd (List.getElem?_eq_none_iff.1 hq) (by show ¬ 16 ≤ k;omega)
   | some q =>
    obtain ⟨w,r⟩ := q
    obtain ⟨hh,hlen,hq8⟩ := stepLs_hd _ (List.mem_of_getElem? hq)
    have hm := Rn.stepTab_len _ (List.mem_of_getElem? hq)
    rw [stT_tab hk hq]
    simp only at hh hlen hq8 hm
    have e1 := head_eq (p := p) (F := F + 7) (h := g) (w ++ 32 :: r.map arR) (by omega) (by omega)
    rw [hh] at e1
    have hrow : ((stepLs.map vs).drop (k + 1)).take 1 = [vs (w ++ 32 :: r.map arR)] := by
     have h1 : stepLs[k + 1]? = some (w ++ 32 :: r.map arR) := by simp [stepLs,hq]
     obtain ⟨h3,h4⟩ := List.getElem?_eq_some_iff.1 h1
     rw [List.drop_eq_getElem_cons (by simpa using h3)]
     simp [h4]
    have hlen8 : (stepLs.map vs).length = 17 := rfl
    have hk8' : k + 1 + 1 ≤ (stepLs.map vs).length := by rw [hlen8];omega
    have gl := G1.lines
    have kn := rowKept g [vi s.a,vi s.b,vi s.c] 0 []
    have b07 := (kn.get (b := h.size) (by omega) (by simp)).trans b0
    have b7 : hget (Ev.newRow g [vi s.a,vi s.b,vi s.c] 0 []) g.size = some (.cells [vi s.a,vi s.b,vi s.c] 0 true []) := by simp
    have main := rst_write (p := p) (F := F) s ov hs w r (List.mem_of_getElem? hq) h.size g.size hF h hG hov hol (Nat.le_refl _) k1.1 (SRes s r [w] r) (r.length - 0) 0 [w] 0 false false false _ rfl (Nat.zero_le _) (k1.trans kn) b07 b7 (by simp) (by have := hm.2;simp [joinW];omega) (by simp [nN]) (by simp) (by simp) (by simp) rfl (F + 8) (by omega)
    have hj : joinW [w] = w := rfl
    rw [hj] at main
    generalize stepLs.map vs = tb at *
    have gn : (0 < gN) = True := eq_true (by decide)
    rw [hk] at b1
    have h1' : ¬ (((k + 1 : Nat) : Int) < 1) := by omega
    have h8' : ¬ (17 ≤ ((k + 1 : Nat) : Int)) := by omega
    simp (disch := first|omega|(simp only [zS];first|done|omega)) [bB,r36_1,b1,h1',h8',r36_3,gn,gl,hrow,hk8',e1,r36_4,r36_5,r36_6,r36_7,r36_8,r36_9,r36_10]
    exact main
end Go.Proofs.YtnoghchcboiojaaGreatDoor
end
section
set_option maxRecDepth 100000
namespace Go.Proofs.YtnoghchcboiojaaGreatDoor
open Go.Ev
open Go.Rn (Bs Ru St stT numT rulesT printT WRes)
variable {p : Bool} {F : Nat} {h : H}
def flatL (l : List Bs) : Bs := (l.map fun t => t ++ [10]).flatten
theorem flatL_snoc (l : List Bs) (t : Bs) : flatL (l ++ [t]) = flatL l ++ (t ++ [10]) := by simp [flatL]
theorem flatL_take {l : List Bs} {i : Nat} {t : Bs} (ht : l[i]? = some t) : flatL (l.take (i + 1)) = flatL (l.take i) ++ (t ++ [10]) := by
 rw [List.take_add_one,ht];exact flatL_snoc _ _
theorem flatL_le (l : List Bs) (i : Nat) : (flatL (l.take i)).length ≤ (flatL l).length := by
 have : flatL l = flatL (l.take i) ++ flatL (l.drop i) := by
  unfold flatL
  rw [← List.flatten_append,← List.map_append,List.take_append_drop]
 rw [this];simp
theorem slr_kept {α : Type} {ok : Nat → Prop} {w : Nat} {R : H → List Value → α → Prop} {h g : H} {v : Value} {xs : List α} (s : SlR ok w R h v xs) (hk : Kept h g []) (hR : ∀ cs,∀ x ∈ xs,R h cs x → R g cs x) : SlR ok w R g v xs :=
 s.imp (fun _ _ q => q) hR fun b cs _ hb => by
  obtain ⟨es,lv,an,hg⟩ := cel_inv hb
  exact cel_of ((hk.get (lt_of_get hg) (by simp)).trans hg)
def E15b (p : Bool) (F : Nat) : K := evC (F + 11) (cxOf (cf p (F + 11)) (cfX XD) [.tmp 4,.tmp 5]) (.seq (.seq (.region r15_25 [12,90]) (.cond (.tmp 90) (.seq (.region r15_26 [4,5]) .ret) .skip)) (.seq (.region r15_27 [8,12]) (.seq (.seq (.region r15_28 [8,12,17]) (.block 4 (.loop [8,12,17] l15_32))) (.seq (.region r15_33 [4,5]) .ret)))) (endK (cfX XD) [.tmp 4,.tmp 5]) noK (endK (cfX XD) [.tmp 4,.tmp 5])
theorem E15b_eq {s : Env} {g : H} {ds : Ds} : E15b p F s g ds = evC (F + 11) (cxOf (cf p (F + 11)) (cfX XD) [.tmp 4,.tmp 5]) (.seq (.seq (.region r15_25 [12,90]) (.cond (.tmp 90) (.seq (.region r15_26 [4,5]) .ret) .skip)) (.seq (.region r15_27 [8,12]) (.seq (.seq (.region r15_28 [8,12,17]) (.block 4 (.loop [8,12,17] l15_32))) (.seq (.region r15_33 [4,5]) .ret)))) (endK (cfX XD) [.tmp 4,.tmp 5]) noK (endK (cfX XD) [.tmp 4,.tmp 5]) s g ds := nr rfl
theorem printV_ok (t : Bs) : printV (.ok t) = .tuple ⟨[vs t,vi 0]⟩ := rfl
theorem printV_long : printV .long = .tuple ⟨[.string { data := #[] },vi 2]⟩ := rfl
theorem printV_bad : printV .bad = .tuple ⟨[.string { data := #[] },vi 180]⟩ := rfl
theorem pend {ok : Nat → Prop} {v lv : Value} {e : Env} {h0 g : H} (ls : List Bs) (hB : SlR ok 1 TxR g lv ls) (hls : ls.length ≤ 401) (hk : Kept h0 g []) (hF : 1000 < F) :
  Ans (E15b p F ((1,v) :: (12,lv) :: (13,vi (flatL ls).length) :: e) g []) fun w h' => Kept h0 h' [] ∧ w = printV (if (flatL ls).length > 65536 then .long else .ok (flatL ls)) := by
 have ll := hB.len
 rw [E15b_eq]
 by_cases hb : (65536 : Int) < (flatL ls).length
 ·simp (disch := first|omega|(simp only [zS];first|done|omega)) [bB,r15_25,hb,r15_26]
  exact Ans.of ⟨hk,by first | rw [printV_long] | rw [if_pos (by omega),printV_long]⟩
 ·have hb' : (flatL ls).length ≤ 65536 := by omega
  rw [if_neg (by omega),printV_ok]
  simp (disch := first|omega|(simp only [zS];first|done|omega)) [bB,r15_25,hb,r15_27,r15_28]
  refine loop_rule (fun m s g' => ∃ i : Nat,i ≤ ls.length ∧ m = ls.length - i ∧ g' = g ∧ s = [(8,vs (flatL (ls.take i))),(12,lv),(17,vi i)])
   ?_ (F + 11) (ls.length - 0) _ g (by omega) ⟨0,by omega,rfl,rfl,rfl⟩
  rintro m s g' again ⟨i,hi,rfl,rfl,rfl⟩ hag
  by_cases hlt : i < ls.length
  ·obtain ⟨x,hxi⟩ : ∃ x,ls[i]? = some x := ⟨_,List.getElem?_eq_getElem hlt⟩
   obtain ⟨b,o,c,cs,es,lv,an,rfl,_,hg,hl1,hr⟩ := hB.at' hxi
   have hr : (cs.drop (o + i * 1)).take 1 = [vs x] := hr
   rw [Nat.mul_one] at hr hl1
   have hlt' : (i : Int) < ls.length := by omega
   have wi : IntKind.i64.wrap ((i : Int) + 1) = (i : Int) + 1 := wrap_in (by omega) (by omega)
   have hx1 := flatL_le ls (i + 1)
   rw [flatL_take hxi] at hx1
   simp only [List.length_append,List.length_cons,List.length_nil] at hx1
   simp (disch := first|omega|(simp only [zS];first|done|omega)) [bB,l15_32,r15_29,ll,hlt',r15_30,hg,hl1,hr,ofB_app,lit_ten,r15_31,wi]
   exact hag (ls.length - (i + 1)) [(8,vs (flatL (ls.take i) ++ (x ++ [10]))),(12,_),(17,vi ((i : Int) + 1))] _ (by omega) ⟨i + 1,by omega,rfl,rfl,by rw [flatL_take hxi];rfl⟩
  ·have : i = ls.length := by omega
   subst this
   rw [List.take_length] at *
   simp (disch := first|omega|(simp only [zS];first|done|omega)) [bB,l15_32,r15_29,ll,r15_33]
   exact Ans.of ⟨hk,rfl⟩
def E15a (p : Bool) (F : Nat) : K := evC (F + 11) (cxOf (cf p (F + 11)) (cfX XD) [.tmp 4,.tmp 5]) (.seq (.region r15_14 [1,8,12]) (.seq (.region r15_15 [1,12,13]) (.seq (.seq (.region r15_16 [1,12,13,14]) (.block 2 (.loop [1,12,13,14] l15_24))) (.seq (.seq (.region r15_25 [12,90]) (.cond (.tmp 90) (.seq (.region r15_26 [4,5]) .ret) .skip)) (.seq (.region r15_27 [8,12]) (.seq (.seq (.region r15_28 [8,12,17]) (.block 4 (.loop [8,12,17] l15_32))) (.seq (.region r15_33 [4,5]) .ret))))))) (endK (cfX XD) [.tmp 4,.tmp 5]) noK (endK (cfX XD) [.tmp 4,.tmp 5])
theorem E15a_eq {s : Env} {g : H} {ds : Ds} : E15a p F s g ds = evC (F + 11) (cxOf (cf p (F + 11)) (cfX XD) [.tmp 4,.tmp 5]) (.seq (.region r15_14 [1,8,12]) (.seq (.region r15_15 [1,12,13]) (.seq (.seq (.region r15_16 [1,12,13,14]) (.block 2 (.loop [1,12,13,14] l15_24))) (.seq (.seq (.region r15_25 [12,90]) (.cond (.tmp 90) (.seq (.region r15_26 [4,5]) .ret) .skip)) (.seq (.region r15_27 [8,12]) (.seq (.seq (.region r15_28 [8,12,17]) (.block 4 (.loop [8,12,17] l15_32))) (.seq (.region r15_33 [4,5]) .ret))))))) (endK (cfX XD) [.tmp 4,.tmp 5]) noK (endK (cfX XD) [.tmp 4,.tmp 5]) s g ds := nr rfl
theorem E15b_is {s : Env} {g : H} {ds : Ds} : evC (F + 11) (cxOf (cf p (F + 11)) (cfX XD) [.tmp 4,.tmp 5]) (.seq (.seq (.region r15_25 [12,90]) (.cond (.tmp 90) (.seq (.region r15_26 [4,5]) .ret) .skip)) (.seq (.region r15_27 [8,12]) (.seq (.seq (.region r15_28 [8,12,17]) (.block 4 (.loop [8,12,17] l15_32))) (.seq (.region r15_33 [4,5]) .ret)))) (endK (cfX XD) [.tmp 4,.tmp 5]) noK (endK (cfX XD) [.tmp 4,.tmp 5]) s g ds = E15b p F s g ds := nr rfl
def LsRes (acc : List Bs) (l : List St) : WRes := match l.mapM stT with
 | none => .bad
 | some ts => if (flatL (acc ++ ts)).length > 65536 then .long else .ok (flatL (acc ++ ts))
theorem LsRes_nil (acc : List Bs) : LsRes acc [] = if (flatL acc).length > 65536 then .long else .ok (flatL acc) := by simp [LsRes]
theorem LsRes_cons (acc : List Bs) (s : St) (l : List St) : LsRes acc (s :: l) = match stT s with
  | none => .bad
  | some t => LsRes (acc ++ [t]) l := by
 unfold LsRes
 rw [List.mapM_cons]
 cases stT s with
 | none => rfl
 | some t =>
  cases l.mapM stT with
  | none => rfl
  | some ts => simp [List.append_assoc]
theorem StE.kept {h g : H} {cs : List Value} {s : St} (q : StE h cs s) (hk : Kept h g []) : StE g cs s := by
 obtain ⟨ov,ok,e,hs⟩ := q
 exact ⟨ov,ok,e,slr_kept hs hk fun _ _ _ q => q⟩
set_option maxHeartbeats 1000000 in
theorem psteps {ok : Nat → Prop} {v x6 x7 : Value} {e : Env} {h0 g : H} (rt : Bs) (hrt : rt.length ≤ 200) (l : List St) (hS : SlR ok 6 StE h0 v l) (hl4 : l.length ≤ 400) (hN : ∀ s ∈ l,StN s ∧ s.ops.length < 4398046511104) (hG : GloR h0) (hk : Kept h0 g []) (hF : 1000 < F) :
  Ans (E15a p F ((1,v) :: (6,x6) :: (7,x7) :: (8,vs rt) :: e) g []) fun w h' => Kept h0 h' [] ∧ w = printV (LsRes [rt] l) := by
 have lx := hS.len
 have kr := rowKept g [vs rt] 1 []
 have w1 : IntKind.i64.wrap ((rt.length : Int) + 1) = (rt.length : Int) + 1 := wrap_in (by omega) (by omega)
 rw [E15a_eq]
 simp (disch := first|omega|(simp only [zS];first|done|omega)) [bB,r15_14,r15_15,r15_16,w1]
 refine loop_rule (fun m s g' => ∃ (i : Nat) (acc : List Bs) (lv : Value),i ≤ l.length ∧ m = l.length - i ∧ Kept h0 g' [] ∧ s = [(1,v),(12,lv),(13,vi (flatL acc).length),(14,vi i)] ∧ acc.length = i + 1 ∧ Bld (fun b => h0.size ≤ b) 1 TxR g' lv acc ∧ (flatL acc).length ≤ (i + 1) * 200100 ∧ LsRes [rt] l = LsRes acc (l.drop i))
  ?_ (F + 11) (l.length - 0) _ _ (by omega) ⟨0,[rt],.slice (some ⟨g.size,0,none⟩) 1 1,by omega,rfl,hk.trans kr,by simp [flatL],rfl,
   .inr ⟨g.size,[vs rt],[],rfl,⟨hk.1,by simp⟩,by simp,rfl,fun i x hx => by
     cases i with
     | zero => simp at hx;subst hx;rfl
     | succ i => simp at hx⟩,by simp [flatL];omega,by simp⟩
 clear kr
 rintro m s g' again ⟨i,acc,lv,hi,rfl,hk',rfl,hal,hB,hlen,hq⟩ hag
 by_cases hlt : i < l.length
 ·obtain ⟨x,hxi⟩ : ∃ x,l[i]? = some x := ⟨_,List.getElem?_eq_getElem hlt⟩
  obtain ⟨b,o,c,cs,es,lv1,an,rfl,_,hg0,hl1,ov,okx,hr,hox⟩ := hS.at' hxi
  have hg := (hk'.get (lt_of_get hg0) (by simp)).trans hg0
  have hlt' : (i : Int) < l.length := by omega
  have wi : IntKind.i64.wrap ((i : Int) + 1) = (i : Int) + 1 := wrap_in (by omega) (by omega)
  have hx := hN x (List.mem_of_getElem? hxi)
  have e1 := rstep_w (p := p) (F := F + 2) (h := g') x ov (hG.kept hk') hx.1 (slr_kept hox hk' fun _ _ _ q => q) hx.2 (by omega)
  rw [drop_at hxi,LsRes_cons] at hq
  simp (disch := first|omega|(simp only [zS];first|done|omega)) [bB,l15_24,r15_17,lx,hlt',r15_18,hg,hl1,hr]
  refine Ans.next e1 ?_
  rintro w g1 ⟨k1,t,ob,rfl,ht⟩
  have kk := hk'.trans k1
  cases ho : stT x with
  | none =>
   rw [ho] at ht hq
   subst ht
   simp (disch := first|omega|(simp only [zS];first|done|omega)) [bB,r15_19,r15_20]
   exact Ans.of ⟨kk,by rw [hq,printV_bad]⟩
  | some tx =>
   rw [ho] at ht hq
   obtain ⟨rfl,rfl⟩ := ht
   have htl := Rn.stT_len ho
   have hB1 := hB.kept k1 (by simp) fun _ _ _ q => q
   obtain ⟨v',h',a1,a2,a3,a4⟩ := word_put hB1 t (by have := kk.1;omega) (by omega)
   have kk' : Kept h0 h' [] := ⟨Nat.le_trans kk.1 a3.1,fun b hb hn => (a4 b (Nat.lt_of_lt_of_le hb kk.1) (by omega)).trans (kk.2 b hb hn)⟩
   have wn1 : IntKind.i64.wrap (((flatL acc).length : Int) + t.length) = ((flatL acc).length : Int) + t.length := wrap_in (by omega) (by omega)
   have wn2 : IntKind.i64.wrap (((flatL acc).length : Int) + t.length + 1) = ((flatL acc).length : Int) + t.length + 1 := wrap_in (by omega) (by omega)
   have hfl : (flatL (acc ++ [t])).length = (flatL acc).length + t.length + 1 := by rw [flatL_snoc];simp;omega
   simp (disch := first|omega|(simp only [zS];first|done|omega)) [bB,r15_19,r15_21,srcOf,isText,a1,r15_22,wn1,wn2,r15_23,wi]
   exact hag (l.length - (i + 1)) [(1,_),(12,v'),(13,vi (((flatL acc).length : Int) + t.length + 1)),(14,vi ((i : Int) + 1))] _ (by omega) ⟨i + 1,acc ++ [t],v',by omega,rfl,kk',by rw [hfl];simp,by simp [hal],a2,by rw [hfl];omega,hq⟩
 ·have : i = l.length := by omega
  subst this
  rw [List.drop_eq_nil_iff.2 (Nat.le_refl _),LsRes_nil] at hq
  have main := pend (p := p) (F := F) (v := v) (e := [(14,vi (l.length : Int)),(67,.bool false)]) (h0 := h0) acc hB.sl (by omega) hk' hF
  rw [← hq] at main
  simp (disch := first|omega|(simp only [zS];first|done|omega)) [bB,l15_24,r15_17,lx]
  exact main
def RuN (r : Ru) : Prop := I64 r.nodes ∧ I64 r.clients ∧ I64 r.queue ∧ I64 r.ring ∧ I64 r.window ∧ I64 r.lease
def RuV (r : Ru) : List (Bs × Int) := [(Rn.w_nodes,r.nodes),(Rn.w_clients,r.clients),(Rn.w_queue,r.queue),(Rn.w_ring,r.ring),(Rn.w_window,r.window),(Rn.w_lease,r.lease)]
def RuRes (acc : Bs) (l : List (Bs × Int)) : Option Bs := match l.mapM (fun q => (numT q.2).map fun t => 32 :: (q.1 ++ 32 :: t)) with
 | none => none
 | some ts => some (acc ++ ts.flatten)
theorem RuRes_nil (acc : Bs) : RuRes acc [] = some acc := by simp [RuRes]
theorem RuRes_cons (acc : Bs) (q : Bs × Int) (l : List (Bs × Int)) : RuRes acc (q :: l) = match numT q.2 with
  | none => none
  | some t => RuRes (acc ++ 32 :: (q.1 ++ 32 :: t)) l := by
 unfold RuRes
 rw [List.mapM_cons]
 cases numT q.2 with
 | none => rfl
 | some t =>
  cases l.mapM (fun q => (numT q.2).map fun t => 32 :: (q.1 ++ 32 :: t)) with
  | none => rfl
  | some ts => simp [List.append_assoc]
theorem rulesT_is (r : Ru) : rulesT r = RuRes Rn.w_world (RuV r) := by
 unfold rulesT RuRes RuV
 generalize List.mapM (fun q : Bs × Int => (numT q.2).map fun t => 32 :: (q.1 ++ 32 :: t)) _ = x
 cases x <;> rfl
theorem RuV_len (r : Ru) : ∀ q ∈ RuV r,q.1.length ≤ 7 := by
 intro q hq
 simp only [RuV,List.mem_cons,List.not_mem_nil,or_false] at hq
 rcases hq with rfl | rfl | rfl | rfl | rfl | rfl <;> exact Nat.le_of_ble_eq_true rfl
theorem RuV_i64 {r : Ru} (h : RuN r) : ∀ q ∈ RuV r,I64 q.2 := by
 obtain ⟨h1,h2,h3,h4,h5,h6⟩ := h
 intro q hq
 simp only [RuV,List.mem_cons,List.not_mem_nil,or_false] at hq
 rcases hq with rfl | rfl | rfl | rfl | rfl | rfl <;> assumption
theorem print_is (r : Ru) (l : List St) (h : l.length ≤ 400) : Rn.print r l = match rulesT r with
  | none => .bad
  | some rt => LsRes [rt] l := by
 unfold Rn.print printT LsRes
 rw [if_neg (by omega)]
 cases rulesT r with
 | none => rfl
 | some rt =>
  cases l.mapM stT with
  | none => rfl
  | some ts =>
   dsimp only
   have : flatL ([rt] ++ ts) = rt ++ 10 :: (ts.map fun t => t ++ [10]).flatten := by simp [flatL]
   rw [this]
theorem lit_names : str110_111_100_101_115 = ofB Rn.w_nodes ∧ str99_108_105_101_110_116_115 = ofB Rn.w_clients ∧ str113_117_101_117_101 = ofB Rn.w_queue ∧ str114_105_110_103 = ofB Rn.w_ring ∧ str119_105_110_100_111_119 = ofB Rn.w_window ∧ str108_101_97_115_101 = ofB Rn.w_lease ∧ str119_111_114_108_100 = ofB Rn.w_world := ⟨rfl,rfl,rfl,rfl,rfl,rfl,rfl⟩
set_option maxHeartbeats 1000000 in
theorem rprint_w {ok : Nat → Prop} {v : Value} (r : Ru) (hr : RuN r) (l : List St) (hS : SlR ok 6 StE h v l) (hl : l.length < 4398046511104) (hN : ∀ s ∈ l,StN s ∧ s.ops.length < 4398046511104) (hG : GloR h) (hF : 1000 < F) :
  Ans (cf p (F + 12) 15 [.agg ⟨ruC r⟩,v] h) fun w h' => Kept h h' [] ∧ w = printV (Rn.print r l) := by
 rw [cf_step (a := a15) rfl rfl (by simp [a15])]
 have lx := hS.len
 have k1 := rowKept h (ruC r) 0 []
 have b1 : hget (Ev.newRow h (ruC r) 0 []) h.size = some (.cells (ruC r) 0 true []) := by simp
 have z1 : (Ev.newRow h (ruC r) 0 []).size = h.size + 1 := by simp
 have eqz : Ev.newRow h [vi r.nodes,vi r.clients,vi r.queue,vi r.ring,vi r.window,vi r.lease] 0 [] = Ev.newRow h (ruC r) 0 [] := rfl
 simp (disch := first|omega|(simp only [zS];first|done|omega)) [bB,a15,r15_0,ruC]
 rw [eqz]
 generalize Ev.newRow h (ruC r) 0 [] = g at *
 by_cases h4 : (400 : Int) < l.length
 ·simp (disch := first|omega|(simp only [zS];first|done|omega)) [bB,r15_1,lx,h4,r15_2]
  refine Ans.of ⟨k1,?_⟩
  unfold Rn.print
  rw [if_pos (by omega),printV_long]
 ·rw [print_is r l (by omega),rulesT_is]
  simp only [ruC] at b1
  have k2 := rowKept g ((RuV r).map fun q => vs q.1) 1 []
  have k3 := rowKept (Ev.newRow g ((RuV r).map fun q => vs q.1) 1 []) ((RuV r).map fun q => vi q.2) 1 []
  have b2 := (k2.get (b := h.size) (by omega) (by simp)).trans b1
  have b6 : hget (Ev.newRow (Ev.newRow g ((RuV r).map fun q => vs q.1) 1 []) ((RuV r).map fun q => vi q.2) 1 []) g.size = some (.cells ((RuV r).map fun q => vs q.1) 1 true []) := by simp
  have b7 : hget (Ev.newRow (Ev.newRow g ((RuV r).map fun q => vs q.1) 1 []) ((RuV r).map fun q => vi q.2) 1 []) (g.size + 1) = some (.cells ((RuV r).map fun q => vi q.2) 1 true []) := by simp
  have kk := (k1.trans k2).trans k3
  have e6 : Ev.newRow g [vs Rn.w_nodes,vs Rn.w_clients,vs Rn.w_queue,vs Rn.w_ring,vs Rn.w_window,vs Rn.w_lease] 1 [] = Ev.newRow g ((RuV r).map fun q => vs q.1) 1 [] := rfl
  have e7 : ∀ g,Ev.newRow g [vi r.nodes,vi r.clients,vi r.queue,vi r.ring,vi r.window,vi r.lease] 1 [] = Ev.newRow g ((RuV r).map fun q => vi q.2) 1 [] := fun g => rfl
  simp (disch := first|omega|(simp only [zS];first|done|omega)) [bB,r15_1,lx,h4,r15_3,lit_names]
  rw [e6]
  have z2 : (Ev.newRow g ((RuV r).map fun q => vs q.1) 1 []).size = g.size + 1 := by simp
  generalize Ev.newRow g ((RuV r).map fun q => vs q.1) 1 [] = g2 at *
  simp (disch := first|omega|(simp only [zS];first|done|omega)) [bB,r15_4,b2]
  rw [e7]
  generalize Ev.newRow g2 ((RuV r).map fun q => vi q.2) 1 [] = g3 at *
  have hlen6 : (RuV r).length = 6 := rfl
  generalize hV : RuV r = V at *
  have hV7 : ∀ q ∈ V,q.1.length ≤ 7 := by rw [← hV];exact RuV_len r
  have hVi : ∀ q ∈ V,I64 q.2 := by rw [← hV];exact RuV_i64 hr
  clear hV e6 e7 k2 k3 b2 eqz b1
  simp (disch := first|omega|(simp only [zS];first|done|omega)) [bB,r15_5,r15_6,lit_names]
  refine loop_rule (fun m s g' => ∃ (i : Nat) (acc : Bs),i ≤ 6 ∧ m = 6 - i ∧ g' = g3 ∧ s = [(1,v),(6,.slice (some ⟨g.size,0,none⟩) 6 6),(7,.slice (some ⟨g2.size,0,none⟩) 6 6),(8,vs acc),(9,vi i)] ∧ acc.length ≤ 5 + i * 30 ∧ RuRes Rn.w_world V = RuRes acc (V.drop i))
   ?_ (F + 11) (6 - 0) _ _ (by omega) ⟨0,Rn.w_world,by omega,rfl,rfl,rfl,by decide,by simp⟩
  rintro m s g' again ⟨i,acc,hi,rfl,rfl,rfl,hlen,hq⟩ hag
  by_cases hlt : i < 6
  ·obtain ⟨x,hxi⟩ : ∃ x,V[i]? = some x := ⟨_,List.getElem?_eq_getElem (by omega)⟩
   have hlt' : (i : Int) < 6 := by omega
   have wi : IntKind.i64.wrap ((i : Int) + 1) = (i : Int) + 1 := wrap_in (by omega) (by omega)
   have hx7 := hV7 x (List.mem_of_getElem? hxi)
   have hxn := hVi x (List.mem_of_getElem? hxi)
   have a6 : ((V.map fun q => vs q.1).drop i).take 1 = [vs x.1] := by rw [drop_at (c := vs x.1) (by simp [hxi])];rfl
   have a7 : ((V.map fun q => vi q.2).drop i).take 1 = [vi x.2] := by rw [drop_at (c := vi x.2) (by simp [hxi])];rfl
   have c6 : i + 1 ≤ (V.map fun q => vs q.1).length := by simp;omega
   have c7 : i + 1 ≤ (V.map fun q => vi q.2).length := by simp;omega
   have e1 := rnum_eq (p := p) (F := F + 9) (h := g') x.2 hxn.1 hxn.2
   rw [z2] at *
   generalize (V.map fun q => vs q.1) = V6 at *
   generalize (V.map fun q => vi q.2) = V7 at *
   rw [drop_at hxi,RuRes_cons] at hq
   cases hp : numT x.2 with
   | none =>
    rw [hp] at e1 hq
    simp (disch := first|omega|(simp only [zS];first|done|omega)) [bB,l15_13,r15_7,hlt',r15_8,b7,c7,a7,e1,r15_9,r15_10]
    exact Ans.of ⟨kk,by rw [hq,printV_bad]⟩
   | some t =>
    rw [hp,itoa_of hp] at e1
    rw [hp] at hq
    have htl := Rn.numT_len hp
    simp (disch := first|omega|(simp only [zS];first|done|omega)) [bB,l15_13,r15_7,hlt',r15_8,b7,c7,a7,e1,r15_9,r15_11,b6,c6,a6,l_blank,ofB_app,r15_12,wi]
    exact hag (6 - (i + 1)) [(1,v),(6,_),(7,_),(8,vs (acc ++ 32 :: (x.1 ++ 32 :: t))),(9,vi ((i : Int) + 1))] _ (by omega) ⟨i + 1,acc ++ 32 :: (x.1 ++ 32 :: t),by omega,rfl,rfl,by rfl,by simp;omega,hq⟩
  ·have : i = 6 := by omega
   subst this
   rw [List.drop_eq_nil_iff.2 (by omega),RuRes_nil] at hq
   rw [hq]
   have main := psteps (p := p) (F := F) (v := v) (x6 := .slice (some ⟨g.size,0,none⟩) 6 6) (x7 := .slice (some ⟨g2.size,0,none⟩) 6 6) (e := [(9,vi 6),(36,.bool false)]) acc (by omega) l hS (by omega) hN hG kk hF
   simp (disch := first|omega|(simp only [zS];first|done|omega)) [bB,l15_13,r15_7]
   exact main
end Go.Proofs.YtnoghchcboiojaaGreatDoor
end
section
set_option maxRecDepth 100000
namespace Go.Proofs.YtnoghchcboiojaaGreatDoor
open Go.Ev
open Go.Rn (Bs Ru St)
variable {h : H}
theorem list_of {α : Type} {P : Nat → α → Prop} : ∀ (n : Nat),(∀ i,i < n → ∃ x,P i x) → ∃ l : List α,l.length = n ∧ ∀ i x,l[i]? = some x → P i x
 | 0,_ => ⟨[],rfl,fun i x hx => by simp at hx⟩
 | n + 1,q => by
  obtain ⟨l,hl,hp⟩ := list_of n fun i hi => q i (by omega)
  obtain ⟨x,hx⟩ := q n (by omega)
  refine ⟨l ++ [x],by simp [hl],fun i y hy => ?_⟩
  by_cases hi : i < n
  ·rw [List.getElem?_append_left (by omega)] at hy
   exact hp i y hy
  ·rw [List.getElem?_append_right (by omega)] at hy
   have : i = n := by
    have := (List.getElem?_eq_some_iff.1 hy).1
    simp at this;omega
   subst this
   simp [hl] at hy
   subst hy
   exact hx
def opTy : Ty := .struct [.int .i64,.str,.str,.int .i64,.int .i64]
def stTy : Ty := .struct [.int .i64,.int .i64,.int .i64,.int .i64,.str,.slice opTy]
def ruTy : Ty := .struct [.int .i64,.int .i64,.int .i64,.int .i64,.int .i64,.int .i64]
theorem wf_i64 {n : Int} (h : (Lit.int .i64 n).wf = true) : I64 n := by
 simp [Lit.wf,IntKind.min,IntKind.max,IntKind.signed,IntKind.bits] at h
 unfold I64
 omega
theorem take_one {cs : List Value} {v : Value} (h : cs.take 1 = [v]) : ∃ t,cs = v :: t := by
 cases cs with
 | nil => simp at h
 | cons a l => simp at h;exact ⟨l,by rw [h]⟩
theorem str_vs (s : ByteArray) : (Value.string s) = vs (bs s) := by
 cases s with
 | mk d => cases d;rfl
theorem open_op {cs : List Value} (q : CellsZ h opTy cs) : ∃ o,cs = opC o ∧ I64 o.version := by
 simp only [opTy,CellsZ,StructZ,Ty.size] at q
 obtain ⟨_,⟨n1,e1,w1⟩,_,⟨s2,e2,w2⟩,_,⟨s3,e3,w3⟩,_,⟨n4,e4,w4⟩,_,⟨n5,e5,w5⟩,e⟩ := q
 obtain ⟨t1,rfl⟩ := take_one e1
 obtain ⟨t2,h2⟩ := take_one e2
 obtain ⟨t3,h3⟩ := take_one e3
 obtain ⟨t4,h4⟩ := take_one e4
 obtain ⟨t5,h5⟩ := take_one e5
 simp only [List.drop_succ_cons,List.drop_zero] at h2 h3 h4 h5 e
 subst h2
 simp only [List.drop_succ_cons,List.drop_zero] at h3 h4 h5 e
 subst h3
 simp only [List.drop_succ_cons,List.drop_zero] at h4 h5 e
 subst h4
 simp only [List.drop_succ_cons,List.drop_zero] at h5 e
 subst h5
 simp only [List.drop_succ_cons,List.drop_zero] at e
 subst e
 exact ⟨⟨n1,bs s2,bs s3,n4,n5⟩,by rw [opC,← str_vs,← str_vs],wf_i64 w4⟩
theorem open_slice {α : Type} {R : H → List Value → α → Prop} {y : Ty} {N : α → Prop} {v : Value} (hy : 0 < y.need) (hop : ∀ cs,CellsZ h y cs → ∃ x,R h cs x ∧ N x) (q : CellsZ h (.slice y) [v]) :
  ∃ l : List α,SlR (fun b => b < h.size) y.size R h v l ∧ (∀ x ∈ l,N x) ∧ l.length * y.need ≤ reachBytes := by
 simp only [CellsZ] at q
 rcases q with q | q | ⟨b,o,n,c,bs,e,h1,h2,h3,h4,h5,h6⟩
 ·cases q;exact ⟨[],.inl ⟨.inl rfl,rfl⟩,by simp,by simp⟩
 ·cases q;exact ⟨[],.inl ⟨.inr rfl,rfl⟩,by simp,by simp⟩
 ·cases e
  obtain ⟨l,hl,hp⟩ := list_of (P := fun i x => R h ((bs.drop (o + i * y.size)).take y.size) x ∧ N x) n fun i hi => hop _ (h6 i hi).2
  refine ⟨l,.inr ⟨b,o,c,bs,by rw [hl],by omega,h4,cel_of h5,fun i x hx => ⟨(h6 i (by have := (List.getElem?_eq_some_iff.1 hx).1;omega)).1,(hp i x hx).1⟩⟩,fun x hx => ?_,by rw [hl];exact h3⟩
  obtain ⟨i,hi⟩ := List.mem_iff_getElem?.1 hx
  exact (hp i x hi).2
theorem open_st {cs : List Value} (q : CellsZ h stTy cs) : ∃ s,StE h cs s ∧ (StN s ∧ s.ops.length * 56 ≤ reachBytes) := by
 simp only [stTy,CellsZ,StructZ,Ty.size] at q
 obtain ⟨_,⟨n1,e1,w1⟩,_,⟨n2,e2,w2⟩,_,⟨n3,e3,w3⟩,_,⟨n4,e4,w4⟩,_,⟨s5,e5,w5⟩,_,q6,e⟩ := q
 obtain ⟨t1,rfl⟩ := take_one e1
 obtain ⟨t2,h2⟩ := take_one e2
 obtain ⟨t3,h3⟩ := take_one e3
 obtain ⟨t4,h4⟩ := take_one e4
 obtain ⟨t5,h5⟩ := take_one e5
 simp only [List.drop_succ_cons,List.drop_zero] at h2 h3 h4 h5 e q6
 subst h2
 simp only [List.drop_succ_cons,List.drop_zero] at h3 h4 h5 e q6
 subst h3
 simp only [List.drop_succ_cons,List.drop_zero] at h4 h5 e q6
 subst h4
 simp only [List.drop_succ_cons,List.drop_zero] at h5 e q6
 subst h5
 simp only [List.drop_succ_cons,List.drop_zero] at e q6
 obtain ⟨ov,rfl⟩ : ∃ ov,t5 = [ov] := by
  cases t5 with
  | nil => simp at q6
  | cons a l =>
   simp at e
   exact ⟨a,by rw [e]⟩
 have q7 : CellsZ h (.slice opTy) [ov] := by
  simp only [CellsZ]
  simpa using q6
 obtain ⟨ops,h1,h2,h3⟩ := open_slice (R := OpR) (N := fun o => I64 o.version) (by decide) (fun cs q => by
  obtain ⟨o,h1,h2⟩ := open_op q
  exact ⟨o,h1,h2⟩) q7
 exact ⟨⟨n1,n2,n3,n4,bs s5,ops⟩,⟨ov,_,by rw [stC,← str_vs],h1⟩,⟨wf_i64 w2,wf_i64 w3,wf_i64 w4,h2⟩,h3⟩
structure InS (h : H) (v : Value) (l : List St) : Prop where
 sl : SlR (fun b => b < h.size) 6 StE h v l
 ok : ∀ s ∈ l,StN s ∧ s.ops.length * 56 ≤ reachBytes
 len : l.length * 72 ≤ reachBytes
theorem open_stepsZ {v : Value} (q : CellsZ h (.slice stTy) [v]) : ∃ l : List St,InS h v l := by
 obtain ⟨l,h1,h2,h3⟩ := open_slice (R := StE) (N := fun s => StN s ∧ s.ops.length * 56 ≤ reachBytes) (by decide) (fun cs q => open_st q) q
 exact ⟨l,h1,h2,h3⟩
theorem open_ru {cs : List Value} (q : CellsZ h ruTy cs) : ∃ r,cs = ruC r ∧ RuN r := by
 simp only [ruTy,CellsZ,StructZ,Ty.size] at q
 obtain ⟨_,⟨n1,e1,w1⟩,_,⟨n2,e2,w2⟩,_,⟨n3,e3,w3⟩,_,⟨n4,e4,w4⟩,_,⟨n5,e5,w5⟩,_,⟨n6,e6,w6⟩,e⟩ := q
 obtain ⟨t1,rfl⟩ := take_one e1
 obtain ⟨t2,h2⟩ := take_one e2
 obtain ⟨t3,h3⟩ := take_one e3
 obtain ⟨t4,h4⟩ := take_one e4
 obtain ⟨t5,h5⟩ := take_one e5
 obtain ⟨t6,h6⟩ := take_one e6
 simp only [List.drop_succ_cons,List.drop_zero] at h2 h3 h4 h5 h6 e
 subst h2
 simp only [List.drop_succ_cons,List.drop_zero] at h3 h4 h5 h6 e
 subst h3
 simp only [List.drop_succ_cons,List.drop_zero] at h4 h5 h6 e
 subst h4
 simp only [List.drop_succ_cons,List.drop_zero] at h5 h6 e
 subst h5
 simp only [List.drop_succ_cons,List.drop_zero] at h6 e
 subst h6
 simp only [List.drop_succ_cons,List.drop_zero] at e
 subst e
 exact ⟨⟨n1,n2,n3,n4,n5,n6⟩,rfl,wf_i64 w1,wf_i64 w2,wf_i64 w3,wf_i64 w4,wf_i64 w5,wf_i64 w6⟩
end Go.Proofs.YtnoghchcboiojaaGreatDoor
end
section
set_option maxRecDepth 100000
namespace Go.Proofs.YtnoghchcboiojaaGreatDoor
open Go.Ev
open Go.Rn (Bs Tok Ru St PRes)
variable {p : Bool} {F : Nat} {h : H}
theorem printV_code (z : Rn.WRes) : ∃ t c,printV z = .tuple ⟨[vs t,vi c]⟩ ∧ (match z with | .ok x => t = x ∧ c = 0 | .long => t = [] ∧ c = 2 | .bad => t = [] ∧ c = 180) := by
 cases z with
 | ok t => exact ⟨t,0,rfl,rfl,rfl⟩
 | long => exact ⟨[],2,rfl,rfl,rfl⟩
 | bad => exact ⟨[],180,rfl,rfl,rfl⟩
theorem lit_zero : ofB [] = { data := #[] } := rfl
end Go.Proofs.YtnoghchcboiojaaGreatDoor
end
