/- Texts of the proofs over heraldlaw18, put together by a program (merge18c.py): Rg4 Rg5 Rg6 Rg7 Rg8 Rg9 Rh0 Rh1 Rh2 Rh2b Rh3 Rh4 Rj00 Rw0 Rw3 Rw4. -/
import Derived.Test.YtnoghchcboiojaaGreatDoorD9
import Derived.Laws.RangeString
import Derived.Test.YtnoghchcboiojaaGreatDoorC2
set_option linter.unusedVariables false
set_option linter.unusedSimpArgs false
section
set_option maxRecDepth 100000
namespace Go.Proofs.YtnoghchcboiojaaGreatDoor
open Go.Ev
open Go.Rn (Bs Tok Ar OA findW stepTab opTab pOp pOpArg pOpArgs pText pNum pFlags pBrief pCounted pIs w_brief w_counted)
variable {p : Bool} {F : Nat} {h : H}
def nxS (v : Value) (h : H) : Option (Value × H) := match v with
 | .pointer (some ⟨b,0,none⟩) => match hget h b with
  | some (.iter t p) => if p < t.size then some (.tuple ⟨[.bool true,.int .i64 p,.int .i32 (Utf8.decode t p).1]⟩,h.setIfInBounds b (.iter t (p + (Utf8.decode t p).2))) else some (.tuple ⟨[.bool false]⟩,h)
  | _ => none
 | _ => none
@[simp ↓ high] theorem evOp_nextStr {x : Operand} {s : Env} : evOp (.nextStr x) s h = nxS (aeval s x) h := nr rfl
theorem nxS_at {b q : Nat} {l : Bs} {c : UInt8} (hb : hget h b = some (.iter (ofB l) q)) (hc : l[q]? = some c) (ha : c.toNat < 128) :
  nxS (.pointer (some ⟨b,0,none⟩)) h = some (.tuple ⟨[.bool true,vi q,.int .i32 c.toNat]⟩,h.setIfInBounds b (.iter (ofB l) (q + 1))) := by
 have hq := (List.getElem?_eq_some_iff.1 hc).1
 have hs : q < (ofB l).size := hq
 have hcc : (ofB l)[q]'hs = c := (List.getElem?_eq_some_iff.1 hc).2
 have hd := decode_ascii (ofB l) q hs (by rw [hcc];exact ha)
 rw [hcc] at hd
 simp only [nxS,hb]
 rw [if_pos hs,hd]
theorem nxS_end {b q : Nat} {l : Bs} (hb : hget h b = some (.iter (ofB l) q)) (hq : l.length ≤ q) : nxS (.pointer (some ⟨b,0,none⟩)) h = some (.tuple ⟨[.bool false]⟩,h) := by
 have hs : ¬ q < (ofB l).size := Nat.not_lt.2 hq
 simp only [nxS,hb]
 rw [if_neg hs]
theorem or_01 : uor .i64 0 1 = 1 := by decide +kernel
theorem or_02 : uor .i64 0 2 = 2 := by decide +kernel
theorem or_12 : uor .i64 1 2 = 3 := by decide +kernel
def FLast : List OA → Prop
 | [] => True
 | [_] => True
 | a :: b :: l => a ≠ .f ∧ FLast (b :: l)
theorem FLast.tail {a : OA} {l : List OA} (h : FLast (a :: l)) : FLast l := by
 cases l with
 | nil => trivial
 | cons b l => exact h.2
theorem FLast.f {l : List OA} (h : FLast (.f :: l)) : l = [] := by
 cases l with
 | nil => rfl
 | cons b l => exact absurd rfl h.1
theorem flast_tab : ∀ q ∈ opTab,FLast q.2 := by
 intro q hq
 simp only [opTab,List.mem_cons,List.not_mem_nil,or_false] at hq
 rcases hq with rfl | rfl | rfl | rfl | rfl | rfl | rfl <;> simp [FLast]
theorem findW_mem {α : Type} {w : Bs} : ∀ {l : List (Bs × α)} {k n : Nat} {x : α},findW w k l = some (n,x) → (w,x) ∈ l ∧ k ≤ n
 | [],k,n,x,h => by simp [findW] at h
 | (m,y) :: l,k,n,x,h => by
  unfold findW at h
  split at h
  ·rename_i e
   cases h;subst e
   exact ⟨by simp,Nat.le_refl _⟩
  ·have := findW_mem h
   exact ⟨List.mem_cons_of_mem _ this.1,by omega⟩
theorem kept_setr {g : H} {r b : Nat} {x : Blk} (k : Kept h g [r]) (hb : h.size ≤ b) : Kept h (g.setIfInBounds b x) [r] :=
 ⟨by simpa using k.1,fun c hc hn => by rw [set_other (by omega)];exact k.2 c hc hn⟩
theorem RdAt.of {g : H} {r : Nat} {v : Value} {ws : List Tok} {i j : Nat} (a : RdAt h r v ws i) (k : Kept h g [r]) (c : hget g r = some (.cells [v,vi j] 0 true [])) (hj : j ≤ ws.length) : RdAt g r v ws j :=
 ⟨c,a.wds.kc k.c (by simp) (fun _ _ _ q => q),hj,a.sm⟩
theorem oaB_lt (a : OA) : (oaB a).toNat < 128 := by cases a <;> decide
theorem t_brief : str98_114_105_101_102 = ofB w_brief := rfl
theorem t_counted : str99_111_117_110_116_101_100 = ofB w_counted := rfl
theorem pIs_at {w : Bs} {ws : List Tok} {j : Nat} (h : ws[j]? = some (.name w)) : pIs w (ws.drop j) = some (ws.drop (j + 1)) := by
 rw [drop_at h];simp [pIs]
theorem pIs_no {w : Bs} {ws : List Tok} {j : Nat} (h : ¬ ws[j]? = some (.name w)) : pIs w (ws.drop j) = none := by
 cases ht : ws[j]? with
 | none => rw [drop_none ht];rfl
 | some t =>
  rw [drop_at ht]
  rw [ht] at h
  cases t with
  | name s => simp only [pIs];rw [if_neg (fun e => h (by rw [e]))]
  | _ => rfl
def L78 (p : Bool) (F : Nat) (fuel : Nat) : K := loopK (F + 4) (cxOf (cf p (F + 4)) (cfX XD) [.cellN 2 5]) [0,2,4,17] l78_18 (putK 0 (evC (F + 4) (cxOf (cf p (F + 4)) (cfX XD) [.cellN 2 5]) (.seq (.region r78_19 [2]) .ret) (endK (cfX XD) [.cellN 2 5]) noK (endK (cfX XD) [.cellN 2 5])) noK) (endK (cfX XD) [.cellN 2 5]) fuel
theorem L78_succ {n : Nat} {s : Env} {g : H} {ds : Ds} : L78 p F (n + 1) s g ds = evC (F + 4) (cxOf (cf p (F + 4)) (cfX XD) [.cellN 2 5]) l78_18 (keepK [0,2,4,17] (L78 p F n)) (putK 0 (evC (F + 4) (cxOf (cf p (F + 4)) (cfX XD) [.cellN 2 5]) (.seq (.region r78_19 [2]) .ret) (endK (cfX XD) [.cellN 2 5]) noK (endK (cfX XD) [.cellN 2 5])) noK) (endK (cfX XD) [.cellN 2 5]) s g ds := loopK_succ
set_option maxHeartbeats 1000000 in
theorem op_loop (l : List OA) (hl : FLast l) (r : Nat) (v : Value) (ws : List Tok) (B2 B4 B17 : Nat) (hF : 20 < F) (h0 : H) (hb2 : h0.size ≤ B2) (hb4 : h0.size ≤ B4) (hb17 : h0.size ≤ B17) (h24 : B2 ≠ B4) (h27 : B2 ≠ B17) (h47 : B4 ≠ B17)
  (text : Bs) (ht : text = l.map oaB) (res : Option (Rn.Op × List Tok)) (i0 : Nat) (a0 : RdAt h0 r v ws i0) :
  ∀ (m : Nat) (q : Nat) (o : Rn.Op) (j : Nat) (g : H),m = l.length - q → q ≤ l.length → i0 ≤ j → j ≤ ws.length → Kept h0 g [r] → hget g B2 = some (.cells [vi 0,vs [],vs [],vi 0,vi 0] 0 true []) → hget g B4 = some (.cells (opC o) 0 true []) →
   hget g B17 = some (.iter (ofB text) q) → hget g r = some (.cells [v,vi j] 0 true []) → (OA.f ∈ l.drop q → o.flags = 0) → FLast (l.drop q) → res = pOpArgs (l.drop q) o (ws.drop j) →
   ∀ fuel,m < fuel → Ans (L78 p F fuel
    [(0,.pointer (some ⟨r,0,none⟩)),(2,.pointer (some ⟨B2,0,none⟩)),(4,.pointer (some ⟨B4,0,none⟩)),(17,.pointer (some ⟨B17,0,none⟩))] g [])
    fun w h' => PcQ res (fun o => .agg ⟨opC o⟩) r v ws i0 h0 w h' := by
 have hr := lt_of_get a0.cell
 intro m
 induction m with
 | zero =>
  intro q o j g hm hq hij hj hk g2 g4 g17 gr hfl hll hres fuel hfu
  obtain ⟨fuel,rfl⟩ : ∃ f',fuel = f' + 1 := ⟨fuel - 1,by omega⟩
  have e : q = l.length := by omega
  subst e
  have n1 := nxS_end g17 (by rw [ht];simp)
  rw [List.drop_eq_nil_iff.2 (Nat.le_refl _)] at hres
  have hs2 := lt_of_get g2
  have hs4 := lt_of_get g4
  rw [L78_succ]
  simp (disch := first|omega|(simp only [zS];first|done|omega)) [l78_18,r78_4,n1,List.getElem?_cons_zero,r78_19,g2,g4,opC]
  have hk' := kept_setr (x := .cells (opC o) 0 true []) hk hb2
  refine Ans.of ⟨hk',.inl ⟨o,j,hres,hij,rfl,a0.of hk' ?_ hj⟩⟩
  rw [set_other (by omega)];exact gr
 | succ m ih =>
  intro q o j g hm hq hij hj hk g2 g4 g17 gr hfl hll hres fuel hfu
  obtain ⟨fuel,rfl⟩ : ∃ f',fuel = f' + 1 := ⟨fuel - 1,by omega⟩
  obtain ⟨a,ha⟩ : ∃ a,l[q]? = some a := ⟨_,List.getElem?_eq_getElem (by omega)⟩
  have hq' := (List.getElem?_eq_some_iff.1 ha).1
  have hta : text[q]? = some (oaB a) := by rw [ht];simp [ha]
  have n1 := nxS_at g17 hta (oaB_lt a)
  rw [drop_at ha] at hres hll hfl
  have hs2 := lt_of_get g2
  have hs4 := lt_of_get g4
  have hs17 := lt_of_get g17
  have hsr := lt_of_get gr
  have k0 := kept_setr (x := .iter (ofB text) (q + 1)) hk hb17
  have gr0 : hget (g.setIfInBounds B17 (.iter (ofB text) (q + 1))) r = some (.cells [v,vi j] 0 true []) := by rw [set_other (by omega)];exact gr
  have g20 : hget (g.setIfInBounds B17 (.iter (ofB text) (q + 1))) B2 = some (.cells [vi 0,vs [],vs [],vi 0,vi 0] 0 true []) := by rw [set_other (by omega)];exact g2
  have g40 : hget (g.setIfInBounds B17 (.iter (ofB text) (q + 1))) B4 = some (.cells (opC o) 0 true []) := by rw [set_other (by omega)];exact g4
  have g170 : hget (g.setIfInBounds B17 (.iter (ofB text) (q + 1))) B17 = some (.iter (ofB text) (q + 1)) := by simp (disch := first|omega|(simp only [zS];first|done|omega)) []
  rw [L78_succ]
  simp (disch := first|omega|(simp only [zS];first|done|omega)) [l78_18,r78_4,n1,List.getElem?_cons_zero,List.getElem?_cons_succ,r78_5,r78_6]
  clear n1
  generalize g.setIfInBounds B17 (.iter (ofB text) (q + 1)) = g' at *
  have R := a0.of k0 gr0 hj
  have ihn := fun o' j' g'' => ih (q + 1) o' j' g'' (by omega) (by omega)
  cases a with
  | p =>
   have e1 := text_spec (p := p) (F := F + 1) true R (by omega)
   simp (disch := first|omega|(simp only [zS];first|done|omega)) [r78_7,r78_8,oaB]
   refine Ans.nextC e1 ?_
   rintro w g1 ⟨k1,⟨x,j',h1,h2,rfl,h4⟩ | ⟨h1,rfl⟩⟩
   ·have g41 := (k1.get (b := B4) (lt_of_get g40) (by simp;omega)).trans g40
    have g21 := (k1.get (b := B2) (lt_of_get g20) (by simp;omega)).trans g20
    have g171 := (k1.get (b := B17) (lt_of_get g170) (by simp;omega)).trans g170
    have hs41 := lt_of_get g41
    simp (disch := first|omega|(simp only [zS];first|done|omega)) [opC,g41]
    simp only [pOpArgs,pOpArg,h1,Option.map_some] at hres
    refine ihn { o with place := x } j' _ (by omega) h4.le (kept_setr (k0.trans k1) hb4) ?_ ?_ ?_ ?_ ?_ hll.tail hres _ (by omega)
    ·rw [set_other (by omega)];exact g21
    ·simp (disch := first|omega|(simp only [zS];first|done|omega)) [opC]
    ·rw [set_other (by omega)];exact g171
    ·rw [set_other (by omega)];exact h4.cell
    ·exact fun q => hfl (List.mem_cons_of_mem _ q)
   ·simp (disch := first|omega|(simp only [zS];first|done|omega)) []
    simp only [pOpArgs,pOpArg,h1,Option.map_none] at hres
    exact Ans.of ⟨k0.trans k1,.inr ⟨hres,rfl⟩⟩
  | d =>
   have e1 := text_spec (p := p) (F := F + 1) false R (by omega)
   simp (disch := first|omega|(simp only [zS];first|done|omega)) [r78_7,r78_9,r78_10,oaB]
   refine Ans.nextC e1 ?_
   rintro w g1 ⟨k1,⟨x,j',h1,h2,rfl,h4⟩ | ⟨h1,rfl⟩⟩
   ·have g41 := (k1.get (b := B4) (lt_of_get g40) (by simp;omega)).trans g40
    have g21 := (k1.get (b := B2) (lt_of_get g20) (by simp;omega)).trans g20
    have g171 := (k1.get (b := B17) (lt_of_get g170) (by simp;omega)).trans g170
    have hs41 := lt_of_get g41
    simp (disch := first|omega|(simp only [zS];first|done|omega)) [opC,g41]
    simp only [pOpArgs,pOpArg,h1,Option.map_some] at hres
    refine ihn { o with data := x } j' _ (by omega) h4.le (kept_setr (k0.trans k1) hb4) ?_ ?_ ?_ ?_ ?_ hll.tail hres _ (by omega)
    ·rw [set_other (by omega)];exact g21
    ·simp (disch := first|omega|(simp only [zS];first|done|omega)) [opC]
    ·rw [set_other (by omega)];exact g171
    ·rw [set_other (by omega)];exact h4.cell
    ·exact fun q => hfl (List.mem_cons_of_mem _ q)
   ·simp (disch := first|omega|(simp only [zS];first|done|omega)) []
    simp only [pOpArgs,pOpArg,h1,Option.map_none] at hres
    exact Ans.of ⟨k0.trans k1,.inr ⟨hres,rfl⟩⟩
  | v =>
   have e1 := next_spec (p := p) (F := F + 2) 2 R (by omega)
   simp (disch := first|omega|(simp only [zS];first|done|omega)) [r78_7,r78_9,r78_11,r78_12,oaB]
   refine Ans.nextC e1 ?_
   rintro w g1 Q
   have k1 := Q.1
   rcases num_of Q with ⟨n,rfl,h1,h4⟩ | ⟨rfl,h1⟩
   ·have g41 := (k1.get (b := B4) (lt_of_get g40) (by simp;omega)).trans g40
    have g21 := (k1.get (b := B2) (lt_of_get g20) (by simp;omega)).trans g20
    have g171 := (k1.get (b := B17) (lt_of_get g170) (by simp;omega)).trans g170
    have hs41 := lt_of_get g41
    simp (disch := first|omega|(simp only [zS];first|done|omega)) [opC,g41,List.getElem?_cons_zero,List.getElem?_cons_succ]
    simp only [pOpArgs,pOpArg,h1,Option.map_some] at hres
    refine ihn { o with version := n } (j + 1) _ (by omega) h4.le (kept_setr (k0.trans k1) hb4) ?_ ?_ ?_ ?_ ?_ hll.tail hres _ (by omega)
    ·rw [set_other (by omega)];exact g21
    ·simp (disch := first|omega|(simp only [zS];first|done|omega)) [opC]
    ·rw [set_other (by omega)];exact g171
    ·rw [set_other (by omega)];exact h4.cell
    ·exact fun q => hfl (List.mem_cons_of_mem _ q)
   ·simp (disch := first|omega|(simp only [zS];first|done|omega)) []
    simp only [pOpArgs,pOpArg,h1,Option.map_none] at hres
    exact Ans.of ⟨k0.trans k1,.inr ⟨hres,rfl⟩⟩
  | f =>
   have hf0 : o.flags = 0 := hfl (by simp)
   have hnil := hll.f
   have hres2 : res = some ({ o with flags := (pFlags (ws.drop j)).1 },(pFlags (ws.drop j)).2) := by
    rw [hres,hnil];rfl
   have hqn : q + 1 = l.length := by
    have := congrArg List.length hnil
    simp at this
    omega
   have e1 := is_spec (p := p) (F := F + 3) w_brief R
   simp (disch := first|omega|(simp only [zS];first|done|omega)) [r78_7,r78_9,r78_11,r78_13,r78_14,oaB,t_brief]
   refine Ans.nextC e1 ?_
   rintro w g1 ⟨k1,Q⟩
   have k2 := k0.trans k1
   have g41 := (k1.get (b := B4) (lt_of_get g40) (by simp;omega)).trans g40
   have g21 := (k1.get (b := B2) (lt_of_get g20) (by simp;omega)).trans g20
   have g171 := (k1.get (b := B17) (lt_of_get g170) (by simp;omega)).trans g170
   have hs41 := lt_of_get g41
   have fin : ∀ (fl : Int) (j2 : Nat) (g2 : H),pFlags (ws.drop j) = (fl,ws.drop j2) → j ≤ j2 → j2 ≤ ws.length → Kept h0 g2 [r] → hget g2 B2 = some (.cells [vi 0,vs [],vs [],vi 0,vi 0] 0 true []) → hget g2 B4 = some (.cells (opC { o with flags := fl }) 0 true []) →
     hget g2 B17 = some (.iter (ofB text) (q + 1)) → hget g2 r = some (.cells [v,vi j2] 0 true []) → Ans (L78 p F fuel
    [(0,.pointer (some ⟨r,0,none⟩)),(2,.pointer (some ⟨B2,0,none⟩)),(4,.pointer (some ⟨B4,0,none⟩)),(17,.pointer (some ⟨B17,0,none⟩))] g2 [])
    fun w h' => PcQ res (fun o => .agg ⟨opC o⟩) r v ws i0 h0 w h' := by
    intro fl j2 g2 hpf h1 h2 h3 h4 h5 h6 h7
    refine ihn { o with flags := fl } j2 g2 (by omega) h2 h3 h4 h5 h6 h7 ?_ hll.tail ?_ fuel (by omega)
    ·rw [hnil];simp
    ·rw [hres2,hpf,hnil];rfl
   have snd : ∀ (fl : Int) (j1 : Nat) (g2 : H) (e : Env) (ke : Nat → K),(fl = 0 ∨ fl = 1) → pBrief (ws.drop j) = (fl,ws.drop j1) → j ≤ j1 → j1 ≤ ws.length → Kept h0 g2 [r] → hget g2 B2 = some (.cells [vi 0,vs [],vs [],vi 0,vi 0] 0 true []) → hget g2 B4 = some (.cells (opC { o with flags := fl }) 0 true []) →
     hget g2 B17 = some (.iter (ofB text) (q + 1)) → hget g2 r = some (.cells [v,vi j1] 0 true []) →
     Ans (evC (F + 4) (cxOf (cf p (F + 4)) (cfX XD) [.cellN 2 5]) (.seq (.region r78_16 [0,2,4,17,47]) (.cond (.tmp 47) (.region r78_17 [0,2,4,17]) .skip)) (keepK [0,2,4,17] (L78 p F fuel)) ke (endK (cfX XD) [.cellN 2 5])
      ((0,.pointer (some ⟨r,0,none⟩)) :: (2,.pointer (some ⟨B2,0,none⟩)) :: (4,.pointer (some ⟨B4,0,none⟩)) :: (17,.pointer (some ⟨B17,0,none⟩)) :: e) g2 [])
     fun w h' => PcQ res (fun o => .agg ⟨opC o⟩) r v ws i0 h0 w h' := by
    intro fl j1 g2 e ke hfl2 hpb h1 h2 h3 h4 h5 h6 h7
    have R2 := a0.of h3 h7 h2
    have e2 := is_spec (p := p) (F := F + 3) w_counted R2
    simp (disch := first|omega|(simp only [zS];first|done|omega)) [r78_16,t_counted]
    refine Ans.nextC e2 ?_
    rintro w g3 ⟨c1,Q⟩
    have c2 := h3.trans c1
    have g43 := (c1.get (b := B4) (lt_of_get h5) (by simp;omega)).trans h5
    have g23 := (c1.get (b := B2) (lt_of_get h4) (by simp;omega)).trans h4
    have g173 := (c1.get (b := B17) (lt_of_get h6) (by simp;omega)).trans h6
    have hs43 := lt_of_get g43
    rcases Q with ⟨q1,rfl,q3⟩ | ⟨q1,rfl,q3⟩
    ·have hpf : pFlags (ws.drop j) = (fl + 2,ws.drop (j1 + 1)) := by
      unfold pFlags;rw [hpb];simp only [pCounted,pIs_at q1]
     have hor : uor .i64 fl 2 = fl + 2 := by rcases hfl2 with rfl | rfl <;> first | exact or_02 | exact or_12
     simp (disch := first|omega|(simp only [zS];first|done|omega)) [r78_17,g43,opC,hor]
     refine fin (fl + 2) (j1 + 1) _ hpf (by omega) q3.le (kept_setr c2 hb4) ?_ ?_ ?_ ?_
     ·rw [set_other (by omega)];exact g23
     ·simp (disch := first|omega|(simp only [zS];first|done|omega)) [opC]
     ·rw [set_other (by omega)];exact g173
     ·rw [set_other (by omega)];exact q3.cell
    ·have hpf : pFlags (ws.drop j) = (fl,ws.drop j1) := by
      unfold pFlags;rw [hpb];simp only [pCounted,pIs_no q1]
     simp (disch := first|omega|(simp only [zS];first|done|omega)) []
     exact fin fl j1 _ hpf h1 h2 c2 g23 g43 g173 q3.cell
   rcases Q with ⟨q1,rfl,q3⟩ | ⟨q1,rfl,q3⟩
   ·simp (disch := first|omega|(simp only [zS];first|done|omega)) [r78_15,g41,opC,hf0,or_01]
    have := snd 1 (j + 1) (g1.setIfInBounds B4 (.cells (opC { o with flags := 1 }) 0 true [])) [] (putK 2 (keepK [0,2,4,17] (L78 p F fuel)) (putK 1 (keepK [0,2,4,17] (L78 p F fuel)) (putK 0 (evC (F + 4) (cxOf (cf p (F + 4)) (cfX XD) [.cellN 2 5]) (.seq (.region r78_19 [2]) .ret) (endK (cfX XD) [.cellN 2 5]) noK (endK (cfX XD) [.cellN 2 5])) noK))) (.inr rfl) (by simp only [pBrief,pIs_at q1]) (by omega) q3.le (kept_setr k2 hb4) (by rw [set_other (by omega)];exact g21) (by simp (disch := first|omega|(simp only [zS];first|done|omega)) []) (by rw [set_other (by omega)];exact g171) (by rw [set_other (by omega)];exact q3.cell)
    simp [opC] at this
    exact this
   ·simp (disch := first|omega|(simp only [zS];first|done|omega)) []
    have := snd 0 j g1 [(41,.bool false)] (putK 2 (keepK [0,2,4,17] (L78 p F fuel)) (putK 1 (keepK [0,2,4,17] (L78 p F fuel)) (putK 0 (evC (F + 4) (cxOf (cf p (F + 4)) (cfX XD) [.cellN 2 5]) (.seq (.region r78_19 [2]) .ret) (endK (cfX XD) [.cellN 2 5]) noK (endK (cfX XD) [.cellN 2 5])) noK))) (.inl rfl) (by simp only [pBrief,pIs_no q1]) (by omega) q3.le k2 g21 (by rw [g41];simp [opC,hf0]) g171 q3.cell
    simp at this
    exact this
end Go.Proofs.YtnoghchcboiojaaGreatDoor
end
section
set_option maxRecDepth 100000
namespace Go.Proofs.YtnoghchcboiojaaGreatDoor
open Go.Ev
open Go.Rn (Bs Tok Ar OA findW stepTab opTab pOp pOpArg pOpArgs pText pNum pFlags pBrief pCounted pIs w_brief w_counted pOps)
variable {p : Bool} {F : Nat} {h : H}
theorem op_spec {r : Nat} {v : Value} {ws : List Tok} {i : Nat} (a : RdAt h r v ws i) (hF : 40 < F) : Ans (cf p (F + 5) 78 [.pointer (some ⟨r,0,none⟩)] h) fun w h' => PcQ (pOp (ws.drop i)) (fun o => .agg ⟨opC o⟩) r v ws i h w h' := by
 rw [cf_step (a := a78) rfl rfl (by simp [a78])]
 have hr := lt_of_get a.cell
 have k0 := rowKept h [vi 0,vs [],vs [],vi 0,vi 0] 0 []
 have b0 : hget (Ev.newRow h [vi 0,vs [],vs [],vi 0,vi 0] 0 []) h.size = some (.cells [vi 0,vs [],vs [],vi 0,vi 0] 0 true []) := by simp
 have s0 : (Ev.newRow h [vi 0,vs [],vs [],vi 0,vi 0] 0 []).size = h.size + 1 := by simp
 simp (disch := first|omega|(simp only [zS];first|done|omega)) [a78,r78_0,lit_nil,r78_1]
 generalize Ev.newRow h [vi 0,vs [],vs [],vi 0,vi 0] 0 [] = g0 at *
 refine Ans.nextC (opShapes_spec (p := p) (F := F + 3) (h := g0)) ?_
 rintro w1 g1 ⟨rfl,rfl⟩
 have k1 := rowKept g0 (opSh.map shC).flatten 3 []
 have hS := shapes_row g0 opSh 7 rfl
 have s1 : (Ev.newRow g0 (opSh.map shC).flatten 3 []).size = h.size + 2 := by simp [s0]
 generalize Ev.newRow g0 (opSh.map shC).flatten 3 [] = g1 at *
 have k01 := k0.trans k1
 have e1 := next_spec (p := p) (F := F + 2) 1 (a.kept k01) (by omega)
 simp (disch := first|omega|(simp only [zS];first|done|omega)) []
 refine Ans.nextC e1 ?_
 rintro w g2 Q
 have k2 := Q.1
 have k02 : Kept h g2 [r] := k01.of_nil.trans k2
 rcases name_of Q with ⟨s,rfl,h1,h2⟩ | ⟨rfl,h1⟩
 ·have hS2 := hS.kc k2.c (by simp;omega) (fun _ _ _ q => q)
  have e2 := find_spec (p := p) (F := F + 2) s hS2 (by show (7 : Nat) < _;omega) (by show (7 : Nat) < _;omega)
  simp (disch := first|omega|(simp only [zS];first|done|omega)) [List.getElem?_cons_zero,List.getElem?_cons_succ]
  refine Ans.nextC e2 ?_
  rintro w g3 ⟨k3,rfl⟩
  have k03 := k02.trans k3.of_nil
  have R3 := h2.kept k3
  have b3 : hget g3 h.size = some (.cells [vi 0,vs [],vs [],vi 0,vi 0] 0 true []) := by
   rw [k3.get (by have := k2.1;omega) (by simp),k2.get (by omega) (by simp;omega),k1.get (by omega) (by simp)];exact b0
  have s3 : h.size + 2 ≤ g3.size := by have := k2.1;have := k3.1;omega
  have hres : pOp (ws.drop i) = match findW s 1 opTab with
    | some (k,r) => pOpArgs r { kind := k } (ws.drop (i + 1))
    | none => none := by rw [h1];rfl
  rw [show opSh = shL oaB 1 opTab from rfl,find_shL]
  cases hf : findW s 1 opTab with
  | none =>
   rw [hf] at hres
   simp (disch := first|omega|(simp only [zS];first|done|omega)) [shV]
   exact Ans.of ⟨k03,.inr ⟨hres,rfl⟩⟩
  | some q =>
   obtain ⟨k,args⟩ := q
   rw [hf] at hres
   have hm := findW_mem hf
   have hfl := flast_tab _ hm.1
   simp (disch := first|omega|(simp only [zS];first|done|omega)) [shV,shC,r78_2,r78_3]
   have c1 := rowKept g3 [vi k,vs s,vs (args.map oaB)] 0 []
   have c2 := rowKept (Ev.newRow g3 [vi k,vs s,vs (args.map oaB)] 0 []) [vi k,vs [],vs [],vi 0,vi 0] 0 []
   have c3 : Kept (Ev.newRow (Ev.newRow g3 [vi k,vs s,vs (args.map oaB)] 0 []) [vi k,vs [],vs [],vi 0,vi 0] 0 []) (Array.push (Ev.newRow (Ev.newRow g3 [vi k,vs s,vs (args.map oaB)] 0 []) [vi k,vs [],vs [],vi 0,vi 0] 0 []) (.iter (ofB (args.map oaB)) 0)) [] :=
    ⟨by simp,fun c hc _ => push_old hc⟩
   have c := (c1.trans c2).trans c3
   have R4 := R3.kept c
   have hk := k03.trans c.of_nil
   refine op_loop args hfl r v ws h.size (g3.size + 1) (g3.size + 2) (by omega) h (Nat.le_refl _) (by omega) (by omega) (by omega) (by omega) (by omega) (args.map oaB) rfl _ i a (args.length - 0) 0 { kind := k } (i + 1) _ rfl (by omega) (by omega) R4.le hk ?_ ?_ ?_ R4.cell (fun _ => rfl) hfl hres _ (by
    have : args.length ≤ 3 := by
     have := hm.1
     simp only [opTab,List.mem_cons,List.not_mem_nil,or_false,Prod.mk.injEq] at this
     rcases this with ⟨_,rfl⟩ | ⟨_,rfl⟩ | ⟨_,rfl⟩ | ⟨_,rfl⟩ | ⟨_,rfl⟩ | ⟨_,rfl⟩ | ⟨_,rfl⟩ <;> simp
    omega)
   ·rw [c.get (by omega) (by simp)];exact b3
   ·simp (disch := first|omega|(simp only [zS];first|done|omega)) [];rfl
   ·simp (disch := first|omega|(simp only [zS];first|done|omega)) []
 ·simp (disch := first|omega|(simp only [zS];first|done|omega)) []
  refine Ans.of ⟨k02,.inr ⟨?_,rfl⟩⟩
  cases hd : ws.drop i with
  | nil => rfl
  | cons t l =>
   cases t <;> first
    | rfl
    | exact absurd hd (h1 _ _)
theorem pNum_lt {t r : List Tok} {n : Int} (h : pNum t = some (n,r)) : r.length < t.length := by
 cases t with
 | nil => cases h
 | cons a l => cases a <;> simp [pNum] at h;obtain ⟨_,rfl⟩ := h;simp
end Go.Proofs.YtnoghchcboiojaaGreatDoor
end
section
set_option maxRecDepth 100000
namespace Go.Proofs.YtnoghchcboiojaaGreatDoor
open Go.Ev
open Go.Rn (Bs Tok pOp pOps)
variable {p : Bool} {F : Nat} {h : H}
def OpsQ (res : Option (List Rn.Op)) (lo : Nat) (r : Nat) (v : Value) (ws : List Tok) (h : H) (w : Value) (h' : H) : Prop := Kept h h' [r] ∧
  ((∃ l,res = some l ∧ Bld (fun b => lo ≤ b) 5 OpR h' w l ∧ RdAt h' r v ws ws.length) ∨ (res = none ∧ w = off))
def opsRest (acc : List Rn.Op) (t : List Tok) : Option (List Rn.Op) := match t with
 | [] => some acc
 | .semi :: t1 => (pOps (4 - acc.length) t1).map fun l => acc ++ l
 | _ => none
theorem opsRest_pop {acc : List Rn.Op} {t t1 : List Tok} {o : Rn.Op} (ha : acc.length < 4) (h : pOp t = some (o,t1)) : opsRest acc (.semi :: t) = opsRest (acc ++ [o]) t1 := by
 have e : 4 - acc.length = (4 - (acc ++ [o]).length) + 1 := by simp;omega
 simp only [opsRest]
 rw [e]
 simp only [pOps,h]
 cases t1 with
 | nil => simp
 | cons a t1 =>
  cases a <;> simp [Option.map_map,Function.comp_def]
theorem opsRest_none {acc : List Rn.Op} {t : List Tok} (h : pOp t = none) : opsRest acc (.semi :: t) = none := by
 simp only [opsRest]
 cases hn : 4 - acc.length with
 | zero => rfl
 | succ n => simp only [pOps,h];rfl
def L45 (p : Bool) (F : Nat) (fuel : Nat) : K := loopK (F + 6) (cxOf (cf p (F + 6)) (cfX XD) [.tmp 2]) [0,3] l45_7 (putK 0 (evC (F + 6) (cxOf (cf p (F + 6)) (cfX XD) [.tmp 2]) (.seq (.region r45_8 [2]) .ret) (endK (cfX XD) [.tmp 2]) noK (endK (cfX XD) [.tmp 2])) noK) (endK (cfX XD) [.tmp 2]) fuel
theorem L45_succ {n : Nat} {s : Env} {g : H} {ds : Ds} : L45 p F (n + 1) s g ds = evC (F + 6) (cxOf (cf p (F + 6)) (cfX XD) [.tmp 2]) l45_7 (keepK [0,3] (L45 p F n)) (putK 0 (evC (F + 6) (cxOf (cf p (F + 6)) (cfX XD) [.tmp 2]) (.seq (.region r45_8 [2]) .ret) (endK (cfX XD) [.tmp 2]) noK (endK (cfX XD) [.tmp 2])) noK) (endK (cfX XD) [.tmp 2]) s g ds := loopK_succ
theorem ops_loop (r : Nat) (v : Value) (ws : List Tok) (lo : Nat) (hF : 4398046511200 < F) (h0 : H) (hlo : lo = h0.size) (hr : r < h0.size) (res : Option (List Rn.Op)) :
  ∀ (m : Nat) (j : Nat) (lv : Value) (acc : List Rn.Op) (g : H),ws.length - j ≤ m → Kept h0 g [r] → RdAt g r v ws j → Bld (fun b => lo ≤ b) 5 OpR g lv acc → acc.length ≤ 4 → res = opsRest acc (ws.drop j) →
   ∀ fuel,m < fuel → Ans (L45 p F fuel [(0,.pointer (some ⟨r,0,none⟩)),(3,lv)] g []) fun w h' => OpsQ res lo r v ws h0 w h' := by
 intro m
 induction m with
 | zero =>
  intro j lv acc g hm hk R hB ha hres fuel hfu
  obtain ⟨fuel,rfl⟩ : ∃ f',fuel = f' + 1 := ⟨fuel - 1,by omega⟩
  have hle := R.le
  have e : j = ws.length := by omega
  subst e
  rw [List.drop_eq_nil_iff.2 (Nat.le_refl _)] at hres
  have hc := R.cell
  have hlen := R.wds.len
  have hnp := one_np hB.sl.one
  rw [L45_succ]
  simp (disch := first|omega|(simp only [zS];first|done|omega)) [l45_7,d45_2,hc,hlen,r45_8,hnp]
  exact Ans.of ⟨hk,.inl ⟨acc,hres,hB,R⟩⟩
 | succ m ih =>
  intro j lv acc g hm hk R hB ha hres fuel hfu
  obtain ⟨fuel,rfl⟩ : ∃ f',fuel = f' + 1 := ⟨fuel - 1,by omega⟩
  have hle := R.le
  have hc := R.cell
  have hlen := R.wds.len
  have hnp := one_np hB.sl.one
  have hsm := R.sm
  rw [L45_succ]
  cases ht : ws[j]? with
  | none =>
   have hge : ¬ ((j : Int) < ws.length) := by have := List.getElem?_eq_none_iff.1 ht;omega
   have e : j = ws.length := by have := List.getElem?_eq_none_iff.1 ht;omega
   subst e
   rw [drop_none ht] at hres
   simp (disch := first|omega|(simp only [zS];first|done|omega)) [l45_7,d45_2,hc,hlen,hge,r45_8,hnp]
   exact Ans.of ⟨hk,.inl ⟨acc,hres,hB,R⟩⟩
  | some t =>
   have hlt : (j : Int) < ws.length := by have := (List.getElem?_eq_some_iff.1 ht).1;omega
   have e1 := next_spec (p := p) (F := F + 4) 5 R (by omega)
   have e2 := fun g => fail_eq (p := p) (F := F + 5) (h := g)
   simp (disch := first|omega|(simp only [zS];first|done|omega)) [l45_7,d45_2,hc,hlen,hlt,r45_3]
   refine Ans.nextC e1 ?_
   rintro w g1 ⟨k1,⟨t',h1,h2,rfl,R1⟩ | ⟨h1,rfl⟩⟩
   ·have := kind_semi h2
    subst this
    rw [drop_at h1] at hres
    have hB1 := hB.kept k1 (by simp;omega) (fun _ _ _ q => q)
    have hlB := hB1.sl.len
    by_cases h4 : acc.length = 4
    ·have h4' : (acc.length : Int) = 4 := by omega
     simp (disch := first|omega|(simp only [zS];first|done|omega)) [r45_4,r45_5,hlB,eqT,h4',e2]
     refine Ans.of ⟨hk.trans k1,.inr ⟨?_,rfl⟩⟩
     rw [hres];simp [opsRest,h4,pOps]
    ·have h4' : ¬ (acc.length : Int) = 4 := by omega
     have e3 := op_spec (p := p) (F := F + 1) R1 (by omega)
     simp (disch := first|omega|(simp only [zS];first|done|omega)) [r45_4,r45_6,hlB,eqF,h4']
     refine Ans.nextC e3 ?_
     rintro w g2 ⟨k2,⟨o,j',q1,q2,rfl,R2⟩ | ⟨q1,rfl⟩⟩
     ·have hB2 := hB1.kept k2 (by simp;omega) (fun _ _ _ q => q)
      have hk2 := (hk.trans k1).trans k2
      obtain ⟨v',g3,a1,a2,a3,a4⟩ := bld_put1 hB2 (bytes := 56) (opC o) (x := o) rfl (by omega) (by have := hk2.1;omega) (fun _ _ _ _ _ _ q => q) (fun _ _ => rfl)
      have hsz := a3.1
      have k3 : Kept h0 g3 [r] := ⟨by have := hk2.1;omega,fun c hc hn => by
       rw [a4 c (by have := hk2.1;omega) (by omega)];exact hk2.2 c hc hn⟩
      have cr : hget g3 r = some (.cells [v,vi j'] 0 true []) := by rw [a4 r (lt_of_get R2.cell) (by omega)];exact R2.cell
      have R3 : RdAt g3 r v ws j' := ⟨cr,R2.wds.kc a3 (by simp) (fun _ _ _ q => q),R2.le,R2.sm⟩
      simp (disch := first|omega|(simp only [zS];first|done|omega)) [opC,srcOf,isText]
      simp only [opC] at a1
      simp (disch := first|omega|(simp only [zS];first|done|omega)) [a1]
      rw [opsRest_pop (by omega) q1] at hres
      exact ih j' v' (acc ++ [o]) g3 (by omega) k3 R3 a2 (by simp;omega) hres fuel (by omega)
     ·simp (disch := first|omega|(simp only [zS];first|done|omega)) []
      refine Ans.of ⟨(hk.trans k1).trans k2,.inr ⟨?_,rfl⟩⟩
      rw [hres,opsRest_none q1]
   ·simp (disch := first|omega|(simp only [zS];first|done|omega)) []
    refine Ans.of ⟨hk.trans k1,.inr ⟨?_,rfl⟩⟩
    rw [hres,drop_at ht]
    have := h1 t ht
    cases t <;> first
     | rfl
     | (simp [kindOf] at this)
theorem ops_spec {r : Nat} {v : Value} {ws : List Tok} {i : Nat} (a : RdAt h r v ws i) (hF : 4398046511200 < F) : Ans (cf p (F + 7) 45 [.pointer (some ⟨r,0,none⟩)] h) fun w h' => OpsQ (pOps 4 (ws.drop i)) h.size r v ws h w h' := by
 rw [cf_step (a := a45) rfl rfl (by simp [a45])]
 have hr := lt_of_get a.cell
 have e3 := op_spec (p := p) (F := F + 1) a (by omega)
 simp (disch := first|omega|(simp only [zS];first|done|omega)) [a45,r45_0,r45_1]
 refine Ans.nextC e3 ?_
 rintro w g ⟨k2,⟨o,j',q1,q2,rfl,R2⟩ | ⟨q1,rfl⟩⟩
 ·have k3 := rowKept g (opC o) 5 []
  have hB : Bld (fun b => h.size ≤ b) 5 OpR (Ev.newRow g (opC o) 5 []) (.slice (some ⟨g.size,0,none⟩) 1 1) [o] := by
   refine .inr ⟨g.size,opC o,[],rfl,⟨k2.1,by simp⟩,by simp,rfl,fun i x hx => ?_⟩
   cases i with
   | zero => simp at hx;subst hx;rfl
   | succ i => simp at hx
  have R3 := R2.kept k3
  have hres : pOps 4 (ws.drop i) = opsRest [o] (ws.drop j') := by
   simp only [pOps,q1,opsRest]
   cases ws.drop j' with
   | nil => rfl
   | cons a l => cases a <;> rfl
  simp (disch := first|omega|(simp only [zS];first|done|omega)) [opC]
  have hsm := R2.sm
  exact ops_loop r v ws h.size hF h rfl hr _ ws.length j' _ [o] _ (by omega) (k2.trans k3.of_nil) R3 hB (by simp) hres (F + 6) (by omega)
 ·simp (disch := first|omega|(simp only [zS];first|done|omega)) []
  refine Ans.of ⟨k2,.inr ⟨?_,rfl⟩⟩
  simp only [pOps,q1]
end Go.Proofs.YtnoghchcboiojaaGreatDoor
end
section
set_option maxRecDepth 100000
namespace Go.Proofs.YtnoghchcboiojaaGreatDoor
open Go.Ev
open Go.Rn (Bs Tok Ar findW stepTab pArg pArgs pStep)
variable {p : Bool} {F : Nat} {h : H}
def stC (s : Rn.St) (ov : Value) : List Value := [vi s.kind,vi s.a,vi s.b,vi s.c,vs s.place,ov]
theorem bld_set {ok : Nat → Prop} {g : H} {v : Value} {xs : List Rn.Op} {b : Nat} {x : Blk} (s : Bld ok 5 OpR g v xs) (hb : ¬ ok b) : Bld ok 5 OpR (g.setIfInBounds b x) v xs := by
 have k : Kept g (g.setIfInBounds b x) [b] := ⟨by simp,fun c hc hn => by rw [set_other (fun e => hn (by simp [e]))]⟩
 exact s.kept k (by simpa using hb) (fun _ _ _ q => q)
def StLQ (res : Option (Rn.St × List Tok)) (B17 : Nat) (r : Nat) (v : Value) (ws : List Tok) (h : H) (w : Value) (h' : H) : Prop := Kept h h' [r] ∧
  ((∃ s ov,res = some (s,[]) ∧ w = .agg ⟨stC s ov⟩ ∧ Bld (fun b => B17 < b) 5 OpR h' ov s.ops) ∨ ((∀ s,res ≠ some (s,[])) ∧ w = off))
theorem arB_lt (y : Ar) : (arB y).toNat < 128 := by cases y <;> decide
def E21 (p : Bool) (F : Nat) : K := evC (F + 7) (cxOf (cf p (F + 7)) (cfX XD) [.cellN 2 6]) (.seq (.seq (.regionD d21_20 [] [2,4,64]) (.cond (.tmp 64) (.region r21_21 [2,4]) .skip)) (.seq (.region r21_22 [2]) .ret)) (endK (cfX XD) [.cellN 2 6]) noK (endK (cfX XD) [.cellN 2 6])
def L21 (p : Bool) (F : Nat) (fuel : Nat) : K := loopK (F + 7) (cxOf (cf p (F + 7)) (cfX XD) [.cellN 2 6]) [0,2,4,17] l21_19 (putK 0 (E21 p F) noK) (endK (cfX XD) [.cellN 2 6]) fuel
theorem L21_succ {n : Nat} {s : Env} {g : H} {ds : Ds} : L21 p F (n + 1) s g ds = evC (F + 7) (cxOf (cf p (F + 7)) (cfX XD) [.cellN 2 6]) l21_19 (keepK [0,2,4,17] (L21 p F n)) (putK 0 (E21 p F) noK) (endK (cfX XD) [.cellN 2 6]) s g ds := loopK_succ
theorem E21_eq {s : Env} {g : H} {ds : Ds} : E21 p F s g ds = evC (F + 7) (cxOf (cf p (F + 7)) (cfX XD) [.cellN 2 6]) (.seq (.seq (.regionD d21_20 [] [2,4,64]) (.cond (.tmp 64) (.region r21_21 [2,4]) .skip)) (.seq (.region r21_22 [2]) .ret)) (endK (cfX XD) [.cellN 2 6]) noK (endK (cfX XD) [.cellN 2 6]) s g ds := nr rfl
set_option maxHeartbeats 1000000 in
theorem step_loop (l : List Ar) (r : Nat) (v : Value) (ws : List Tok) (B2 B4 B17 : Nat) (hF : 4398046511200 < F) (h0 : H) (hb2 : h0.size ≤ B2) (hb4 : h0.size ≤ B4) (h24 : B2 ≠ B4) (h27 : B2 < B17) (h47 : B4 < B17)
  (text : Bs) (ht : text = l.map arB) (res : Option (Rn.St × List Tok)) (i0 : Nat) (a0 : RdAt h0 r v ws i0) (hG : Glo h0) (hr14 : 14 ≤ r) :
  ∀ (m : Nat) (q : Nat) (s : Rn.St) (ov : Value) (j : Nat) (g : H),m = l.length - q → q ≤ l.length → i0 ≤ j → j ≤ ws.length → Kept h0 g [r] → hget g B2 = some (.cells [vi 0,vi 0,vi 0,vi 0,vs [],.slice none 0 0] 0 true []) → hget g B4 = some (.cells (stC s ov) 0 true []) →
   hget g B17 = some (.iter (ofB text) q) → hget g r = some (.cells [v,vi j] 0 true []) → Bld (fun b => B17 < b) 5 OpR g ov s.ops → res = pArgs (l.drop q) s (ws.drop j) →
   ∀ fuel,m < fuel → Ans (L21 p F fuel [(0,.pointer (some ⟨r,0,none⟩)),(2,.pointer (some ⟨B2,0,none⟩)),(4,.pointer (some ⟨B4,0,none⟩)),(17,.pointer (some ⟨B17,0,none⟩))] g [])
    fun w h' => StLQ res B17 r v ws h0 w h' := by
 have hr := lt_of_get a0.cell
 intro m
 induction m with
 | zero =>
  intro q s ov j g hm hq hij hj hk g2 g4 g17 gr hB hres fuel hfu
  obtain ⟨fuel,rfl⟩ : ∃ f',fuel = f' + 1 := ⟨fuel - 1,by omega⟩
  have e : q = l.length := by omega
  subst e
  have n1 := nxS_end g17 (by rw [ht];simp)
  rw [List.drop_eq_nil_iff.2 (Nat.le_refl _)] at hres
  have hs2 := lt_of_get g2
  have hs4 := lt_of_get g4
  have R := a0.of hk gr hj
  have hc := R.cell
  have hlen := R.wds.len
  have e1 := fun g => fail_eq (p := p) (F := F + 6) (h := g)
  have h1w := hB.sl.one
  unfold oneCell at h1w
  rw [L21_succ]
  simp (disch := first|omega|(simp only [zS];first|done|omega)) [l21_19,r21_4,n1,List.getElem?_cons_zero]
  rw [E21_eq]
  by_cases hjl : j = ws.length
  ·have hne : ((j : Int) != ws.length) = false := by simp [hjl]
   simp (disch := first|omega|(simp only [zS];first|done|omega)) [d21_20,hc,hlen,hne,r21_22,g2,g4,stC,h1w]
   have hk' := kept_setr (x := .cells (stC s ov) 0 true []) hk hb2
   refine Ans.of ⟨hk',.inl ⟨s,ov,?_,rfl,bld_set hB (by omega)⟩⟩
   rw [hres,hjl,List.drop_eq_nil_iff.2 (Nat.le_refl _)];rfl
  ·have hne : ((j : Int) != ws.length) = true := by simp;omega
   simp (disch := first|omega|(simp only [zS];first|done|omega)) [d21_20,hc,hlen,hne,r21_21,e1]
   refine Ans.of ⟨hk,.inr ⟨fun s' e => ?_,rfl⟩⟩
   rw [hres] at e
   simp only [pArgs,Option.some.injEq,Prod.mk.injEq] at e
   have := List.drop_eq_nil_iff.1 e.2
   omega
 | succ m ih =>
  intro q s ov j g hm hq hij hj hk g2 g4 g17 gr hB hres fuel hfu
  obtain ⟨fuel,rfl⟩ : ∃ f',fuel = f' + 1 := ⟨fuel - 1,by omega⟩
  obtain ⟨y,ha⟩ : ∃ y,l[q]? = some y := ⟨_,List.getElem?_eq_getElem (by omega)⟩
  have hq' := (List.getElem?_eq_some_iff.1 ha).1
  have hta : text[q]? = some (arB y) := by rw [ht];simp [ha]
  have n1 := nxS_at g17 hta (arB_lt y)
  rw [drop_at ha] at hres
  have hs2 := lt_of_get g2
  have hs4 := lt_of_get g4
  have hs17 := lt_of_get g17
  have hsr := lt_of_get gr
  have k0 := kept_setr (x := .iter (ofB text) (q + 1)) hk (show h0.size ≤ B17 by omega)
  have gr0 : hget (g.setIfInBounds B17 (.iter (ofB text) (q + 1))) r = some (.cells [v,vi j] 0 true []) := by rw [set_other (by omega)];exact gr
  have g20 : hget (g.setIfInBounds B17 (.iter (ofB text) (q + 1))) B2 = some (.cells [vi 0,vi 0,vi 0,vi 0,vs [],.slice none 0 0] 0 true []) := by rw [set_other (by omega)];exact g2
  have g40 : hget (g.setIfInBounds B17 (.iter (ofB text) (q + 1))) B4 = some (.cells (stC s ov) 0 true []) := by rw [set_other (by omega)];exact g4
  have g170 : hget (g.setIfInBounds B17 (.iter (ofB text) (q + 1))) B17 = some (.iter (ofB text) (q + 1)) := by simp (disch := first|omega|(simp only [zS];first|done|omega)) []
  have hB0 : Bld (fun b => B17 < b) 5 OpR (g.setIfInBounds B17 (.iter (ofB text) (q + 1))) ov s.ops := bld_set hB (by omega)
  rw [L21_succ]
  simp (disch := first|omega|(simp only [zS];first|done|omega)) [l21_19,r21_4,n1,List.getElem?_cons_zero,List.getElem?_cons_succ,r21_5,r21_6]
  clear n1
  generalize g.setIfInBounds B17 (.iter (ofB text) (q + 1)) = g' at *
  have R := a0.of k0 gr0 hj
  have ihn := fun s' ov' j' g'' a1 a2 a3 a4 a5 a6 a7 a8 a9 => ih (q + 1) s' ov' j' g'' (by omega) (by omega) a1 a2 a3 a4 a5 a6 a7 a8 a9 fuel (by omega)
  cases y with
  | a =>
   have e1 := next_spec (p := p) (F := F + 5) 2 R (by omega)
   simp (disch := first|omega|(simp only [zS];first|done|omega)) [r21_7,r21_8,arB]
   refine Ans.nextC e1 ?_
   rintro w g1 Q
   have k1 := Q.1
   have g41 := (k1.get (b := B4) (lt_of_get g40) (by simp;omega)).trans g40
   have g21 := (k1.get (b := B2) (lt_of_get g20) (by simp;omega)).trans g20
   have g171 := (k1.get (b := B17) (lt_of_get g170) (by simp;omega)).trans g170
   have hs41 := lt_of_get g41
   have hB1 := hB0.kept k1 (by simp;omega) (fun _ _ _ q => q)
   rcases num_of Q with ⟨n,rfl,h1,h4⟩ | ⟨rfl,h1⟩
   ·simp (disch := first|omega|(simp only [zS];first|done|omega)) [stC,g41,List.getElem?_cons_zero,List.getElem?_cons_succ]
    simp only [pArgs,pArg,h1,Option.map_some] at hres
    refine ihn { s with a := n } ov (j + 1) _ (by omega) h4.le (kept_setr (k0.trans k1) (by omega)) ?_ ?_ ?_ ?_ ?_ hres
    ·rw [set_other (by omega)];exact g21
    ·simp (disch := first|omega|(simp only [zS];first|done|omega)) [stC]
    ·rw [set_other (by omega)];exact g171
    ·rw [set_other (by omega)];exact h4.cell
    ·exact bld_set hB1 (by omega)
   ·simp (disch := first|omega|(simp only [zS];first|done|omega)) []
    simp only [pArgs,pArg,h1,Option.map_none] at hres
    exact Ans.of ⟨k0.trans k1,.inr ⟨fun _ e => (by rw [hres] at e;cases e),rfl⟩⟩
  | b =>
   have e1 := next_spec (p := p) (F := F + 5) 2 R (by omega)
   simp (disch := first|omega|(simp only [zS];first|done|omega)) [r21_7,r21_9,r21_10,arB]
   refine Ans.nextC e1 ?_
   rintro w g1 Q
   have k1 := Q.1
   have g41 := (k1.get (b := B4) (lt_of_get g40) (by simp;omega)).trans g40
   have g21 := (k1.get (b := B2) (lt_of_get g20) (by simp;omega)).trans g20
   have g171 := (k1.get (b := B17) (lt_of_get g170) (by simp;omega)).trans g170
   have hs41 := lt_of_get g41
   have hB1 := hB0.kept k1 (by simp;omega) (fun _ _ _ q => q)
   rcases num_of Q with ⟨n,rfl,h1,h4⟩ | ⟨rfl,h1⟩
   ·simp (disch := first|omega|(simp only [zS];first|done|omega)) [stC,g41,List.getElem?_cons_zero,List.getElem?_cons_succ]
    simp only [pArgs,pArg,h1,Option.map_some] at hres
    refine ihn { s with b := n } ov (j + 1) _ (by omega) h4.le (kept_setr (k0.trans k1) (by omega)) ?_ ?_ ?_ ?_ ?_ hres
    ·rw [set_other (by omega)];exact g21
    ·simp (disch := first|omega|(simp only [zS];first|done|omega)) [stC]
    ·rw [set_other (by omega)];exact g171
    ·rw [set_other (by omega)];exact h4.cell
    ·exact bld_set hB1 (by omega)
   ·simp (disch := first|omega|(simp only [zS];first|done|omega)) []
    simp only [pArgs,pArg,h1,Option.map_none] at hres
    exact Ans.of ⟨k0.trans k1,.inr ⟨fun _ e => (by rw [hres] at e;cases e),rfl⟩⟩
  | c =>
   have e1 := next_spec (p := p) (F := F + 5) 2 R (by omega)
   simp (disch := first|omega|(simp only [zS];first|done|omega)) [r21_7,r21_9,r21_11,r21_12,arB]
   refine Ans.nextC e1 ?_
   rintro w g1 Q
   have k1 := Q.1
   have g41 := (k1.get (b := B4) (lt_of_get g40) (by simp;omega)).trans g40
   have g21 := (k1.get (b := B2) (lt_of_get g20) (by simp;omega)).trans g20
   have g171 := (k1.get (b := B17) (lt_of_get g170) (by simp;omega)).trans g170
   have hs41 := lt_of_get g41
   have hB1 := hB0.kept k1 (by simp;omega) (fun _ _ _ q => q)
   rcases num_of Q with ⟨n,rfl,h1,h4⟩ | ⟨rfl,h1⟩
   ·simp (disch := first|omega|(simp only [zS];first|done|omega)) [stC,g41,List.getElem?_cons_zero,List.getElem?_cons_succ]
    simp only [pArgs,pArg,h1,Option.map_some] at hres
    refine ihn { s with c := n } ov (j + 1) _ (by omega) h4.le (kept_setr (k0.trans k1) (by omega)) ?_ ?_ ?_ ?_ ?_ hres
    ·rw [set_other (by omega)];exact g21
    ·simp (disch := first|omega|(simp only [zS];first|done|omega)) [stC]
    ·rw [set_other (by omega)];exact g171
    ·rw [set_other (by omega)];exact h4.cell
    ·exact bld_set hB1 (by omega)
   ·simp (disch := first|omega|(simp only [zS];first|done|omega)) []
    simp only [pArgs,pArg,h1,Option.map_none] at hres
    exact Ans.of ⟨k0.trans k1,.inr ⟨fun _ e => (by rw [hres] at e;cases e),rfl⟩⟩
  | p =>
   have e1 := text_spec (p := p) (F := F + 4) true R (by omega)
   simp (disch := first|omega|(simp only [zS];first|done|omega)) [r21_7,r21_9,r21_11,r21_13,r21_14,arB]
   refine Ans.nextC e1 ?_
   rintro w g1 ⟨k1,⟨x,j',h1,h2,rfl,h4⟩ | ⟨h1,rfl⟩⟩
   ·have g41 := (k1.get (b := B4) (lt_of_get g40) (by simp;omega)).trans g40
    have g21 := (k1.get (b := B2) (lt_of_get g20) (by simp;omega)).trans g20
    have g171 := (k1.get (b := B17) (lt_of_get g170) (by simp;omega)).trans g170
    have hs41 := lt_of_get g41
    have hB1 := hB0.kept k1 (by simp;omega) (fun _ _ _ q => q)
    simp (disch := first|omega|(simp only [zS];first|done|omega)) [stC,g41]
    simp only [pArgs,pArg,h1,Option.map_some] at hres
    refine ihn { s with place := x } ov j' _ (by omega) h4.le (kept_setr (k0.trans k1) (by omega)) ?_ ?_ ?_ ?_ ?_ hres
    ·rw [set_other (by omega)];exact g21
    ·simp (disch := first|omega|(simp only [zS];first|done|omega)) [stC]
    ·rw [set_other (by omega)];exact g171
    ·rw [set_other (by omega)];exact h4.cell
    ·exact bld_set hB1 (by omega)
   ·simp (disch := first|omega|(simp only [zS];first|done|omega)) []
    simp only [pArgs,pArg,h1,Option.map_none] at hres
    exact Ans.of ⟨k0.trans k1,.inr ⟨fun _ e => (by rw [hres] at e;cases e),rfl⟩⟩
  | k =>
   have e1 := watch_spec (p := p) (F := F + 4) (hG.kept k0 hr14) hr14 R (by omega)
   simp (disch := first|omega|(simp only [zS];first|done|omega)) [r21_7,r21_9,r21_11,r21_13,r21_15,r21_16,arB]
   refine Ans.nextC e1 ?_
   rintro w g1 ⟨k1,⟨x,j',h1,h2,rfl,h4⟩ | ⟨h1,rfl⟩⟩
   ·have g41 := (k1.get (b := B4) (lt_of_get g40) (by simp;omega)).trans g40
    have g21 := (k1.get (b := B2) (lt_of_get g20) (by simp;omega)).trans g20
    have g171 := (k1.get (b := B17) (lt_of_get g170) (by simp;omega)).trans g170
    have hs41 := lt_of_get g41
    have hB1 := hB0.kept k1 (by simp;omega) (fun _ _ _ q => q)
    simp (disch := first|omega|(simp only [zS];first|done|omega)) [stC,g41]
    simp only [pArgs,pArg,h1,Option.map_some] at hres
    refine ihn { s with b := x } ov j' _ (by omega) h4.le (kept_setr (k0.trans k1) (by omega)) ?_ ?_ ?_ ?_ ?_ hres
    ·rw [set_other (by omega)];exact g21
    ·simp (disch := first|omega|(simp only [zS];first|done|omega)) [stC]
    ·rw [set_other (by omega)];exact g171
    ·rw [set_other (by omega)];exact h4.cell
    ·exact bld_set hB1 (by omega)
   ·simp (disch := first|omega|(simp only [zS];first|done|omega)) []
    simp only [pArgs,pArg,h1,Option.map_none] at hres
    exact Ans.of ⟨k0.trans k1,.inr ⟨fun _ e => (by rw [hres] at e;cases e),rfl⟩⟩
  | o =>
   have e1 := ops_spec (p := p) (F := F) R hF
   simp (disch := first|omega|(simp only [zS];first|done|omega)) [r21_7,r21_9,r21_11,r21_13,r21_15,r21_17,r21_18,arB]
   refine Ans.nextC e1 ?_
   rintro w g1 ⟨k1,⟨x,h1,h2,h4⟩ | ⟨h1,rfl⟩⟩
   ·have g41 := (k1.get (b := B4) (lt_of_get g40) (by simp;omega)).trans g40
    have g21 := (k1.get (b := B2) (lt_of_get g20) (by simp;omega)).trans g20
    have g171 := (k1.get (b := B17) (lt_of_get g170) (by simp;omega)).trans g170
    have hs41 := lt_of_get g41
    have hnp := one_np h2.sl.one
    have h1w := h2.sl.one
    have hvc := h2.sl.vc
    unfold oneCell at h1w
    unfold vcells at hvc
    have h2' : Bld (fun b => B17 < b) 5 OpR g1 w x := h2.imp fun b _ q => by have := lt_of_get g170;omega
    rw [nextC_ok hnp]
    simp only [setD_some]
    simp (disch := first|omega|(simp only [zS];first|done|omega)) [stC,g41,hvc,h1w]
    simp only [pArgs,pArg,h1,Option.map_some] at hres
    refine ihn { s with ops := x } w ws.length _ (by omega) (Nat.le_refl _) (kept_setr (k0.trans k1) (by omega)) ?_ ?_ ?_ ?_ ?_ (by rw [hres,List.drop_eq_nil_iff.2 (Nat.le_refl _)])
    ·rw [set_other (by omega)];exact g21
    ·simp (disch := first|omega|(simp only [zS];first|done|omega)) [stC]
    ·rw [set_other (by omega)];exact g171
    ·rw [set_other (by omega)];exact h4.cell
    ·exact bld_set h2' (by omega)
   ·simp (disch := first|omega|(simp only [zS];first|done|omega)) []
    simp only [pArgs,pArg,h1,Option.map_none] at hres
    exact Ans.of ⟨k0.trans k1,.inr ⟨fun _ e => (by rw [hres] at e;cases e),rfl⟩⟩
end Go.Proofs.YtnoghchcboiojaaGreatDoor
end
section
set_option maxRecDepth 100000
namespace Go.Proofs.YtnoghchcboiojaaGreatDoor
open Go.Ev
open Go.Rn (Bs Tok Ar findW stepTab pArg pArgs pStep)
variable {p : Bool} {F : Nat} {h : H}
def StepQ (res : Option Rn.St) (r : Nat) (h : H) (w : Value) (h' : H) : Prop := Kept h h' [r] ∧
  ((∃ s ov,res = some s ∧ w = .agg ⟨stC s ov⟩ ∧ Bld (fun b => h.size ≤ b) 5 OpR h' ov s.ops) ∨ (res = none ∧ w = off))
theorem stepTab_len : ∀ q ∈ stepTab,q.2.length ≤ 3 := by
 intro q hq
 simp only [stepTab,List.mem_cons,List.not_mem_nil,or_false] at hq
 rcases hq with rfl | rfl | rfl | rfl | rfl | rfl | rfl | rfl | rfl | rfl | rfl | rfl | rfl | rfl | rfl | rfl <;> simp
theorem step_spec {r : Nat} {v : Value} {ws : List Tok} {i : Nat} (a : RdAt h r v ws i) (hG : Glo h) (hr14 : 14 ≤ r) (hF : 4398046511200 < F) : Ans (cf p (F + 8) 21 [.pointer (some ⟨r,0,none⟩)] h) fun w h' => StepQ (pStep (ws.drop i)) r h w h' := by
 rw [cf_step (a := a21) rfl rfl (by simp [a21])]
 have hr := lt_of_get a.cell
 have k0 := rowKept h [vi 0,vi 0,vi 0,vi 0,vs [],.slice none 0 0] 0 []
 have b0 : hget (Ev.newRow h [vi 0,vi 0,vi 0,vi 0,vs [],.slice none 0 0] 0 []) h.size = some (.cells [vi 0,vi 0,vi 0,vi 0,vs [],.slice none 0 0] 0 true []) := by simp
 have s0 : (Ev.newRow h [vi 0,vi 0,vi 0,vi 0,vs [],.slice none 0 0] 0 []).size = h.size + 1 := by simp
 simp (disch := first|omega|(simp only [zS];first|done|omega)) [a21,r21_0,lit_nil,r21_1]
 generalize Ev.newRow h [vi 0,vi 0,vi 0,vi 0,vs [],.slice none 0 0] 0 [] = g0 at *
 refine Ans.nextC (shapes_spec (p := p) (F := F + 6) (h := g0)) ?_
 rintro w1 g1 ⟨rfl,rfl⟩
 have k1 := rowKept g0 (stepSh.map shC).flatten 3 []
 have hS := shapes_row g0 stepSh 16 rfl
 have s1 : (Ev.newRow g0 (stepSh.map shC).flatten 3 []).size = h.size + 2 := by simp [s0]
 generalize Ev.newRow g0 (stepSh.map shC).flatten 3 [] = g1 at *
 have k01 := k0.trans k1
 have e1 := next_spec (p := p) (F := F + 5) 1 (a.kept k01) (by omega)
 simp (disch := first|omega|(simp only [zS];first|done|omega)) []
 refine Ans.nextC e1 ?_
 rintro w g2 Q
 have k2 := Q.1
 have k02 : Kept h g2 [r] := k01.of_nil.trans k2
 rcases name_of Q with ⟨s,rfl,h1,h2⟩ | ⟨rfl,h1⟩
 ·have hS2 := hS.kc k2.c (by simp;omega) (fun _ _ _ q => q)
  have e2 := find_spec (p := p) (F := F + 5) s hS2 (by show (16 : Nat) < _;omega) (by show (16 : Nat) < _;omega)
  simp (disch := first|omega|(simp only [zS];first|done|omega)) [List.getElem?_cons_zero,List.getElem?_cons_succ]
  refine Ans.nextC e2 ?_
  rintro w g3 ⟨k3,rfl⟩
  have k03 := k02.trans k3.of_nil
  have R3 := h2.kept k3
  have b3 : hget g3 h.size = some (.cells [vi 0,vi 0,vi 0,vi 0,vs [],.slice none 0 0] 0 true []) := by
   rw [k3.get (by have := k2.1;omega) (by simp),k2.get (by omega) (by simp;omega),k1.get (by omega) (by simp)];exact b0
  have s3 : h.size + 2 ≤ g3.size := by have := k2.1;have := k3.1;omega
  have hres : pStep (ws.drop i) = match findW s 1 stepTab with
    | some (k,r) => match pArgs r { kind := k } (ws.drop (i + 1)) with
     | some (s,[]) => some s
     | _ => none
    | none => none := by rw [h1];rfl
  rw [show stepSh = shL arB 1 stepTab from rfl,find_shL]
  cases hf : findW s 1 stepTab with
  | none =>
   rw [hf] at hres
   simp (disch := first|omega|(simp only [zS];first|done|omega)) [shV]
   exact Ans.of ⟨k03,.inr ⟨hres,rfl⟩⟩
  | some q =>
   obtain ⟨k,args⟩ := q
   rw [hf] at hres
   simp only at hres
   have hm := findW_mem hf
   simp (disch := first|omega|(simp only [zS];first|done|omega)) [shV,shC,r21_2,r21_3]
   have c1 := rowKept g3 [vi k,vs s,vs (args.map arB)] 0 []
   have c2 := rowKept (Ev.newRow g3 [vi k,vs s,vs (args.map arB)] 0 []) [vi k,vi 0,vi 0,vi 0,vs [],.slice none 0 0] 0 []
   have c3 : Kept (Ev.newRow (Ev.newRow g3 [vi k,vs s,vs (args.map arB)] 0 []) [vi k,vi 0,vi 0,vi 0,vs [],.slice none 0 0] 0 []) (Array.push (Ev.newRow (Ev.newRow g3 [vi k,vs s,vs (args.map arB)] 0 []) [vi k,vi 0,vi 0,vi 0,vs [],.slice none 0 0] 0 []) (.iter (ofB (args.map arB)) 0)) [] :=
    ⟨by simp,fun c hc _ => push_old hc⟩
   have c := (c1.trans c2).trans c3
   have R4 := R3.kept c
   have hk := k03.trans c.of_nil
   have hlen3 := stepTab_len _ hm.1
   simp only at hlen3
   have main := step_loop (p := p) args r v ws h.size (g3.size + 1) (g3.size + 2) hF h (Nat.le_refl _) (by omega) (by omega) (by omega) (by omega) (args.map arB) rfl _ i a hG hr14 (args.length - 0) 0 { kind := k } (.slice none 0 0) (i + 1) _ rfl (by omega) (by omega) R4.le hk
    (by rw [c.get (by omega) (by simp)];exact b3) (by simp (disch := first|omega|(simp only [zS];first|done|omega)) [];rfl) (by simp (disch := first|omega|(simp only [zS];first|done|omega)) []) R4.cell (Bld.nil _ _ _ _) rfl (F + 7) (by omega)
   refine main.mono ?_
   rintro w h' ⟨m1,⟨s',ov,m2,rfl,m3⟩ | ⟨m2,rfl⟩⟩
   ·refine ⟨m1,.inl ⟨s',ov,?_,rfl,?_⟩⟩
    ·rw [hres];simp only [List.drop_zero] at m2;rw [m2]
    ·exact m3.imp fun b _ q => by omega
   ·refine ⟨m1,.inr ⟨?_,rfl⟩⟩
    rw [hres]
    simp only [List.drop_zero] at m2
    cases hp : pArgs args { kind := (k : Int) } (ws.drop (i + 1)) with
    | none => rfl
    | some q =>
     obtain ⟨s',t'⟩ := q
     cases t' with
     | nil => exact absurd hp (m2 s')
     | cons _ _ => rfl
 ·simp (disch := first|omega|(simp only [zS];first|done|omega)) []
  refine Ans.of ⟨k02,.inr ⟨?_,rfl⟩⟩
  cases hd : ws.drop i with
  | nil => rfl
  | cons t l =>
   cases t <;> first
    | rfl
    | exact absurd hd (h1 _ _)
end Go.Proofs.YtnoghchcboiojaaGreatDoor
end
section
set_option maxRecDepth 100000
namespace Go.Proofs.YtnoghchcboiojaaGreatDoor
open Go.Ev
open Go.Rn (Bs Tok Ru pRules pField pFields ruleWords pIs pNum w_world)
variable {p : Bool} {F : Nat} {h : H}
def fldC (b : Nat) (q : Bs × Nat) : List Value := [vs q.1,.pointer (some ⟨b,q.2,none⟩)]
def FldR (b : Nat) (_ : H) (cs : List Value) (q : Bs × Nat) : Prop := cs = fldC b q
def fldL : List (Bs × Nat) := ruleWords.zipIdx
theorem fields_spec {b : Nat} : Ans (cf p (F + 1) 30 [.pointer (some ⟨b,0,none⟩)] h) fun v h' => h' = Ev.newRow h (fldL.map (fldC b)).flatten 2 [] ∧ v = .slice (some ⟨h.size,0,none⟩) 6 6 := by
 rw [cf_step (a := a30) rfl rfl (by simp [a30])]
 simp [a30,r30_0,d30_1]
 exact Ans.of ⟨rfl,rfl⟩
theorem fields_row (h : H) (b : Nat) : SlR (· = h.size) 2 (FldR b) (Ev.newRow h (fldL.map (fldC b)).flatten 2 []) (.slice (some ⟨h.size,0,none⟩) 6 6) fldL := by
 refine .inr ⟨h.size,0,6,(fldL.map (fldC b)).flatten,rfl,Nat.le_refl _,rfl,cel_of (es := 2) (lv := true) (an := []) (by simp),fun i x hx => ?_⟩
 have := flat_at (fldC b) 2 (fun _ => rfl) fldL i x hx
 rw [Nat.zero_add]
 exact this
theorem fld_at {i : Nat} (hi : i < 6) : ∃ w,ruleWords[i]? = some w ∧ fldL[i]? = some (w,i) := by
 have : i = 0 ∨ i = 1 ∨ i = 2 ∨ i = 3 ∨ i = 4 ∨ i = 5 := by omega
 rcases this with rfl | rfl | rfl | rfl | rfl | rfl <;> exact ⟨_,rfl,rfl⟩
theorem take2 {cs : List Value} {q : Nat} {x y : Value} (e : (cs.drop q).take 2 = [x,y]) : (cs.drop q).take 1 = [x] ∧ (cs.drop (q + 1)).take 1 = [y] := by
 have e0 : (cs.drop q)[0]? = some x := by have := congrArg (·[0]?) e;simpa using this
 have e1 : (cs.drop q)[1]? = some y := by have := congrArg (·[1]?) e;simpa using this
 have g : ∀ {l : List Value} {v : Value},l[0]? = some v → l.take 1 = [v] := by
  intro l v hl
  cases l with
  | nil => simp at hl
  | cons a l => simp at hl;simp [hl]
 refine ⟨g e0,g ?_⟩
 rw [List.getElem?_drop] at e1 ⊢;simpa using e1
def RulesQ (res : Option Ru) (r : Nat) (h : H) (w : Value) (h' : H) : Prop := Kept h h' [r] ∧
  ((∃ x,res = some x ∧ w = .agg ⟨ruC x⟩) ∨ (res = none ∧ w = off))
def rulesOf : Option (List Int × List Tok) → Option Ru
 | some ([n1,n2,n3,n4,n5,n6],[]) => some ⟨n1,n2,n3,n4,n5,n6⟩
 | _ => none
def E20 (p : Bool) (F : Nat) : K := evC (F + 3) (cxOf (cf p (F + 3)) (cfX XD) [.cellN 2 6]) (.seq (.seq (.regionD d20_12 [] [2,3,38]) (.cond (.tmp 38) (.region r20_13 [2,3]) .skip)) (.seq (.region r20_14 [2]) .ret)) (endK (cfX XD) [.cellN 2 6]) noK (endK (cfX XD) [.cellN 2 6])
theorem E20_eq {s : Env} {g : H} {ds : Ds} : E20 p F s g ds = evC (F + 3) (cxOf (cf p (F + 3)) (cfX XD) [.cellN 2 6]) (.seq (.seq (.regionD d20_12 [] [2,3,38]) (.cond (.tmp 38) (.region r20_13 [2,3]) .skip)) (.seq (.region r20_14 [2]) .ret)) (endK (cfX XD) [.cellN 2 6]) noK (endK (cfX XD) [.cellN 2 6]) s g ds := nr rfl
def L20 (p : Bool) (F : Nat) (fuel : Nat) : K := loopK (F + 3) (cxOf (cf p (F + 3)) (cfX XD) [.cellN 2 6]) [0,2,3,10,11,12] l20_11 (putK 0 (E20 p F) noK) (endK (cfX XD) [.cellN 2 6]) fuel
theorem L20_succ {n : Nat} {s : Env} {g : H} {ds : Ds} : L20 p F (n + 1) s g ds = evC (F + 3) (cxOf (cf p (F + 3)) (cfX XD) [.cellN 2 6]) l20_11 (keepK [0,2,3,10,11,12] (L20 p F n)) (putK 0 (E20 p F) noK) (endK (cfX XD) [.cellN 2 6]) s g ds := loopK_succ
theorem dk_pan {cx : Cx} {ops : List DOp} {ts : List TR} {h : H} {wins : List (Nat × List Nat)} {keep : List Nat} {kn : K} {ds : Ds} {s : Env} {v : Value} : DK.pan cx ⟨ops,wins,keep,kn,ds⟩ ts s h v = if chks cx.c ops ts h wins = true then cx.p v (rest s ops) h ds else none := nr rfl
theorem sc {b o : Nat} : (sameCell (.pointer (some ⟨b,o,none⟩)) (.pointer (some ⟨b,o,none⟩)) = true) = True := by simp [sameCell]
theorem rules_loop (r : Nat) (v : Value) (ws : List Tok) (B2 B3 Bf : Nat) (hF : 40 < F) (h0 : H) (hb2 : h0.size ≤ B2) (hb3 : h0.size ≤ B3) (h23 : B2 ≠ B3) (hbf : h0.size ≤ Bf) (h2f : B2 ≠ Bf) (h3f : B3 ≠ Bf)
  (res : Option (List Int × List Tok)) (i0 : Nat) (a0 : RdAt h0 r v ws i0) :
  ∀ (m : Nat) (i : Nat) (acc : List Int) (j : Nat) (g : H),m = 6 - i → i ≤ 6 → acc.length = i → i0 ≤ j → j ≤ ws.length → Kept h0 g [r] → hget g B2 = some (.cells [vi 0,vi 0,vi 0,vi 0,vi 0,vi 0] 0 true []) →
   hget g B3 = some (.cells ((acc ++ List.replicate (6 - i) 0).map vi) 0 true []) → cel g Bf = some (fldL.map (fldC B3)).flatten → hget g r = some (.cells [v,vi j] 0 true []) →
   res = (pFields (ruleWords.drop i) (ws.drop j)).map (fun q => (acc ++ q.1,q.2)) →
   ∀ fuel,m < fuel → Ans (L20 p F fuel [(0,.pointer (some ⟨r,0,none⟩)),(2,.pointer (some ⟨B2,0,none⟩)),(3,.pointer (some ⟨B3,0,none⟩)),(10,.slice (some ⟨Bf,0,none⟩) 6 6),(11,vi 6),(12,vi i)] g [])
    fun w h' => RulesQ (rulesOf res) r h0 w h' := by
 have hr := lt_of_get a0.cell
 intro m
 induction m with
 | zero =>
  intro i acc j g hm hi hacc hij hj hk g2 g3 gf gr hres fuel hfu
  obtain ⟨fuel,rfl⟩ : ∃ f',fuel = f' + 1 := ⟨fuel - 1,by omega⟩
  have e : i = 6 := by omega
  subst e
  have hs2 := lt_of_get g2
  have hs3 := lt_of_get g3
  have R := a0.of hk gr hj
  have hc := R.cell
  have hlen := R.wds.len
  have e1 := fun g => fail_eq (p := p) (F := F + 2) (h := g)
  have hres' : res = some (acc,ws.drop j) := by rw [hres];simp [show ruleWords.drop 6 = [] from rfl,pFields]
  rw [L20_succ]
  simp (disch := first|omega|(simp only [zS];first|done|omega)) [l20_11,r20_5]
  rw [E20_eq]
  obtain ⟨n1,n2,n3,n4,n5,n6,rfl⟩ : ∃ n1 n2 n3 n4 n5 n6,acc = [n1,n2,n3,n4,n5,n6] := by
   match acc,hacc with
   | [n1,n2,n3,n4,n5,n6],_ => exact ⟨_,_,_,_,_,_,rfl⟩
  by_cases hjl : j = ws.length
  ·have hne : ((j : Int) != ws.length) = false := by simp [hjl]
   simp at g3
   simp (disch := first|omega|(simp only [zS];first|done|omega)) [d20_12,hc,hlen,hne,r20_14,g2,g3]
   have hk' := kept_setr (x := .cells [vi n1,vi n2,vi n3,vi n4,vi n5,vi n6] 0 true []) hk hb2
   refine Ans.of ⟨hk',.inl ⟨⟨n1,n2,n3,n4,n5,n6⟩,?_,rfl⟩⟩
   rw [hres',hjl,List.drop_eq_nil_iff.2 (Nat.le_refl _)];rfl
  ·have hne : ((j : Int) != ws.length) = true := by simp;omega
   simp (disch := first|omega|(simp only [zS];first|done|omega)) [d20_12,hc,hlen,hne,r20_13,e1]
   refine Ans.of ⟨hk,.inr ⟨?_,rfl⟩⟩
   rw [hres']
   cases hd : ws.drop j with
   | nil => exact absurd (List.drop_eq_nil_iff.1 hd) (by omega)
   | cons _ _ => rfl
 | succ m ih =>
  intro i acc j g hm hi hacc hij hj hk g2 g3 gf gr hres fuel hfu
  obtain ⟨fuel,rfl⟩ : ∃ f',fuel = f' + 1 := ⟨fuel - 1,by omega⟩
  have hi6 : i < 6 := by omega
  obtain ⟨w0,hw1,hw2⟩ := fld_at hi6
  obtain ⟨es,lv,an,gF⟩ := cel_inv gf
  have hsf := lt_of_get gF
  have hs2 := lt_of_get g2
  have hs3 := lt_of_get g3
  obtain ⟨hfl,hft⟩ := flat_at (fldC B3) 2 (fun _ => rfl) fldL i _ hw2
  have hft' : (((fldL.map (fldC B3)).flatten).drop (i * 2)).take 2 = [vs w0,.pointer (some ⟨B3,i,none⟩)] := hft
  generalize (fldL.map (fldC B3)).flatten = fcs at *
  have k1 := rowKept g [vs w0,.pointer (some ⟨B3,i,none⟩)] 0 []
  have R := a0.of hk gr hj
  have R1 := R.kept k1
  have e1 := is_spec (p := p) (F := F + 2) w0 R1
  have e2 := fun g => fail_eq (p := p) (F := F + 2) (h := g)
  have hi6' : (i : Int) < 6 := by omega
  have hres0 : pFields (ruleWords.drop i) (ws.drop j) = match pField w0 (ws.drop j) with
    | some (n,t1) => (pFields (ruleWords.drop (i + 1)) t1).map fun q => (n :: q.1,q.2)
    | none => none := by
   rw [drop_at hw1];rfl
  rw [L20_succ]
  simp (disch := first|omega|(simp only [zS];first|done|omega)) [l20_11,r20_5,r20_6,r20_7,hi6',gF,hfl,hft']
  refine Ans.nextC e1 ?_
  rintro w g1 ⟨k2,Q⟩
  have kk := (hk.trans k1.of_nil).trans k2
  have s1 : g.size < g1.size := by have := k2.1;simp at this;omega
  have gX : hget g1 g.size = some (.cells [vs w0,.pointer (some ⟨B3,i,none⟩)] 0 true []) := by
   rw [k2.get (by simp) (by simp;have := hk.1;omega)];simp
  have g21 : hget g1 B2 = some (.cells [vi 0,vi 0,vi 0,vi 0,vi 0,vi 0] 0 true []) := by
   rw [k2.get (by simp;omega) (by simp;omega)];simp (disch := first|omega|(simp only [zS];first|done|omega)) [];exact g2
  have g31 : hget g1 B3 = some (.cells ((acc ++ List.replicate (6 - i) 0).map vi) 0 true []) := by
   rw [k2.get (by simp;omega) (by simp;omega)];simp (disch := first|omega|(simp only [zS];first|done|omega)) [];rw [g3];simp
  have gf1 : cel g1 Bf = some fcs := by
   rw [cel_congr (k2.get (b := Bf) (by simp;omega) (by simp;omega)),cel_congr (k1.get hsf (by simp))];exact gf
  rcases Q with ⟨q1,rfl,R2⟩ | ⟨q1,rfl,R2⟩
  ·have hpf : pField w0 (ws.drop j) = pNum (ws.drop (j + 1)) := by unfold pField;rw [pIs_at q1]
   have e3 := next_spec (p := p) (F := F + 1) 2 R2 (by omega)
   simp (disch := first|omega|(simp only [zS];first|done|omega)) [aUn,d20_9,gX]
   refine Ans.nextCD e3 ?_
   rintro w g2 Q
   have k3 := Q.1
   have s2 : g1.size ≤ g2.size := k3.1
   have gX2 : hget g2 g.size = some (.cells [vs w0,.pointer (some ⟨B3,i,none⟩)] 0 true []) := by
    rw [k3.get (by omega) (by simp;omega)];exact gX
   have g22 : hget g2 B2 = some (.cells [vi 0,vi 0,vi 0,vi 0,vi 0,vi 0] 0 true []) := by
    rw [k3.get (by omega) (by simp;omega)];exact g21
   have g32 : hget g2 B3 = some (.cells ((acc ++ List.replicate (6 - i) 0).map vi) 0 true []) := by
    rw [k3.get (by omega) (by simp;omega)];exact g31
   have gf2 : cel g2 Bf = some fcs := by
    rw [cel_congr (k3.get (b := Bf) (by omega) (by simp;omega))];exact gf1
   rcases num_of Q with ⟨n,rfl,h1,h2⟩ | ⟨rfl,h1⟩
   ·have hl3 : i + 1 ≤ acc.length + (6 - i) := by omega
    simp (disch := first|omega|(simp only [zS];first|done|omega)) [List.getElem?_cons_zero,List.getElem?_cons_succ,g32,hl3,dk_go,chks_nil,chks_cons,chkA_cons,chkA_nil,chk1_yes,hAt_eq,hOf_some,hOf_none,gX2,chkV_some,sameV,sc,r20_10]
    have hwr : IntKind.i64.wrap ((i : Int) + 1) = ((i + 1 : Nat) : Int) := by
     rw [wrap_in (by omega) (by omega)];omega
    have hrow : List.take i (List.map vi acc ++ List.replicate (6 - i) (vi 0)) ++ vi n :: List.drop (i + 1) (List.map vi acc ++ List.replicate (6 - i) (vi 0)) = (acc ++ [n] ++ List.replicate (6 - (i + 1)) 0).map vi := by
     subst hacc
     have e1 : (6 - acc.length - (acc.length + 1 - acc.length)) = 6 - (acc.length + 1) := by omega
     rw [List.take_append_of_le_length (by simp),List.take_of_length_le (by simp),List.drop_append,List.drop_of_length_le (by simp),List.drop_replicate]
     simp;omega
    rw [hwr,hrow]
    have kE := kept_setr (x := .cells ((acc ++ [n] ++ List.replicate (6 - (i + 1)) 0).map vi) 0 true []) (kk.trans k3) hb3
    refine ih (i + 1) (acc ++ [n]) (j + 1 + 1) _ (by omega) (by omega) (by simp [hacc]) (by omega) h2.le kE ?_ ?_ ?_ ?_ ?_ fuel (by omega)
    ·rw [set_other (by omega)];exact g22
    ·simp (disch := first|omega|(simp only [zS];first|done|omega)) []
    ·rw [cel_congr (set_other (by omega))];exact gf2
    ·rw [set_other (by omega)];exact h2.cell
    ·rw [hres,hres0,hpf,h1]
     simp only [Option.map_map]
     congr 1
     funext q;simp [List.append_assoc]
   ·simp (disch := first|omega|(simp only [zS];first|done|omega)) [dk_pan,blanks,List.getElem?_cons_zero,List.getElem?_cons_succ,chks_nil,chks_cons,chkA_cons,chkA_nil,chk1_yes,hAt_eq,hOf_some,hOf_none,gX2,chkV_some,sameV,sc]
    refine Ans.of ⟨kk.trans k3,.inr ⟨?_,rfl⟩⟩
    rw [hres,hres0,hpf,h1];rfl
  ·have hpf : pField w0 (ws.drop j) = none := by unfold pField;rw [pIs_no q1]
   simp (disch := first|omega|(simp only [zS];first|done|omega)) [aUn,r20_8,e2]
   refine Ans.of ⟨kk,.inr ⟨?_,rfl⟩⟩
   rw [hres,hres0,hpf];rfl
theorem lit_world : str119_111_114_108_100 = ofB w_world := rfl
theorem rulesOf_pRules {t : List Tok} : pRules t = match pIs w_world t with
  | some r => rulesOf (pFields ruleWords r)
  | none => none := by
 unfold pRules rulesOf
 cases pIs w_world t with
 | none => rfl
 | some r =>
  simp only
  split <;> simp_all
theorem rules_spec {r : Nat} {v : Value} {ws : List Tok} {i : Nat} (a : RdAt h r v ws i) (hF : 40 < F) : Ans (cf p (F + 4) 20 [.pointer (some ⟨r,0,none⟩)] h) fun w h' => RulesQ (pRules (ws.drop i)) r h w h' := by
 rw [cf_step (a := a20) rfl rfl (by simp [a20])]
 have hr := lt_of_get a.cell
 have k0 := rowKept h [vi 0,vi 0,vi 0,vi 0,vi 0,vi 0] 0 []
 have b0 : hget (Ev.newRow h [vi 0,vi 0,vi 0,vi 0,vi 0,vi 0] 0 []) h.size = some (.cells [vi 0,vi 0,vi 0,vi 0,vi 0,vi 0] 0 true []) := by simp
 have s0 : (Ev.newRow h [vi 0,vi 0,vi 0,vi 0,vi 0,vi 0] 0 []).size = h.size + 1 := by simp
 simp (disch := first|omega|(simp only [zS];first|done|omega)) [a20,r20_0,r20_1,r20_2,lit_world]
 generalize Ev.newRow h [vi 0,vi 0,vi 0,vi 0,vi 0,vi 0] 0 [] = g0 at *
 have k1 := k0.trans (rowKept g0 [vi 0,vi 0,vi 0,vi 0,vi 0,vi 0] 0 [])
 have b10 : hget (Ev.newRow g0 [vi 0,vi 0,vi 0,vi 0,vi 0,vi 0] 0 []) h.size = some (.cells [vi 0,vi 0,vi 0,vi 0,vi 0,vi 0] 0 true []) := by
  simp (disch := first|omega|(simp only [zS];first|done|omega)) [s0];exact b0
 have b11 : hget (Ev.newRow g0 [vi 0,vi 0,vi 0,vi 0,vi 0,vi 0] 0 []) (h.size + 1) = some (.cells [vi 0,vi 0,vi 0,vi 0,vi 0,vi 0] 0 true []) := by rw [← s0];simp
 have s1 : (Ev.newRow g0 [vi 0,vi 0,vi 0,vi 0,vi 0,vi 0] 0 []).size = h.size + 2 := by simp [s0]
 generalize Ev.newRow g0 [vi 0,vi 0,vi 0,vi 0,vi 0,vi 0] 0 [] = g1 at *
 have e1 := is_spec (p := p) (F := F + 2) w_world (a.kept k1)
 have e2 := fun g => fail_eq (p := p) (F := F + 2) (h := g)
 refine Ans.nextC e1 ?_
 rintro w g2 ⟨k2,Q⟩
 have k02 := k1.of_nil.trans k2
 have s2 := k2.1
 rcases Q with ⟨q1,rfl,R2⟩ | ⟨q1,rfl,R2⟩
 ·have hres : pRules (ws.drop i) = rulesOf (pFields (ruleWords.drop 0) (ws.drop (i + 1))) := by rw [rulesOf_pRules,pIs_at q1];rfl
  have e3 := fields_spec (p := p) (F := F + 2) (b := h.size + 1) (h := g2)
  simp (disch := first|omega|(simp only [zS];first|done|omega)) [aUn,r20_4]
  refine Ans.nextC e3 ?_
  rintro w g3 ⟨rfl,rfl⟩
  have k3 := rowKept g2 (fldL.map (fldC (h.size + 1))).flatten 2 []
  have g3f : cel (Ev.newRow g2 (fldL.map (fldC (h.size + 1))).flatten 2 []) g2.size = some (fldL.map (fldC (h.size + 1))).flatten := cel_of (es := 2) (lv := true) (an := []) (by simp)
  generalize Ev.newRow g2 (fldL.map (fldC (h.size + 1))).flatten 2 [] = g3 at *
  have k03 := k02.trans k3.of_nil
  have R3 := R2.kept k3
  simp (disch := first|omega|(simp only [zS];first|done|omega)) []
  have main := rules_loop (p := p) (F := F) r v ws h.size (h.size + 1) g2.size hF h (Nat.le_refl _) (by omega) (by omega) (by omega) (by omega) (by omega) (pFields (ruleWords.drop 0) (ws.drop (i + 1))) i a 6 0 [] (i + 1) g3 rfl (by omega) rfl (by omega) R3.le k03 ?_ ?_ g3f R3.cell ?_ (F + 3) (by omega)
  ·rw [hres];exact main
  ·rw [k3.get (by omega) (by simp),k2.get (by omega) (by simp;omega)];exact b10
  ·rw [k3.get (by omega) (by simp),k2.get (by omega) (by simp;omega)];exact b11
  ·cases pFields (ruleWords.drop 0) (ws.drop (i + 1)) with
   | none => rfl
   | some q => rfl
 ·have hres : pRules (ws.drop i) = none := by rw [rulesOf_pRules,pIs_no q1]
  simp (disch := first|omega|(simp only [zS];first|done|omega)) [aUn,r20_3,e2]
  exact Ans.of ⟨k02,.inr ⟨hres,rfl⟩⟩
end Go.Proofs.YtnoghchcboiojaaGreatDoor
end
section
set_option maxRecDepth 100000
namespace Go.Proofs.YtnoghchcboiojaaGreatDoor
open Go.Ev
open Go.Rn (Bs)
theorem index_one_eq (c : UInt8) (l : Bs) : Lib.index (c :: l) [c] = 0 := by rw [Lib.index];simp [List.isPrefixOf]
theorem index_one_ne {b c : UInt8} (l : Bs) (h : b ≠ c) : Lib.index (b :: l) [c] = if Lib.index l [c] == -1 then -1 else Lib.index l [c] + 1 := by
 have hp : ([c] : List UInt8).isPrefixOf (b :: l) = false := by simp [List.isPrefixOf,Ne.symm h]
 rw [Lib.index,hp];simp
theorem splitL_ne : ∀ l : Bs,Rn.splitL l ≠ []
 | [] => by simp [Rn.splitL]
 | c :: r => by
  unfold Rn.splitL
  split
  ·simp
  ·split <;> simp
theorem splitK_ten : ∀ l : Bs,Lib.splitK [10] 0 (l.count 10) l = Rn.splitL l
 | [] => rfl
 | c :: l => by
  have ih := splitK_ten l
  by_cases h : c = 10
  ·subst h
   rw [List.count_cons_self,Lib.splitK,index_one_eq]
   simp [Rn.splitL,ih]
  ·rw [List.count_cons_of_ne (by simpa using h)]
   unfold Rn.splitL
   rw [if_neg h,← ih]
   cases hc : l.count 10 with
   | zero => simp [Lib.splitK]
   | succ k =>
    have hm : Lib.index l [10] ≠ -1 := by
     intro e
     have := Lib.count_miss e
     rw [Lib.count_one] at this
     omega
    have hge := Lib.index_ge l [10]
    have e1 : (Lib.index l [10] == -1) = false := by simpa using hm
    have e2 : (Lib.index (c :: l) [10] == -1) = false := by
     rw [index_one_ne l h,e1];simp;omega
    have e3 : (Lib.index (c :: l) [10]).toNat = (Lib.index l [10]).toNat + 1 := by
     rw [index_one_ne l h,e1];simp;omega
    simp only [Lib.splitK,e1,e2,e3]
    simp [Nat.add_right_comm]
theorem bs_ofB (l : Bs) : (ofB l).data.toList = l := rfl
theorem ofB_bs (s : ByteArray) : ofB s.data.toList = s := rfl
theorem split_lines (t : Bs) : splitL' (ofB t) (ofB [10]) = (Rn.splitL t).map ofB := by
 have h := Lib.splitB_data (ofB [10]) 0 (Lib.countB (ofB t) (ofB [10])) (ofB t)
 have hc : Lib.countB (ofB t) (ofB [10]) = t.count 10 := Lib.count_one 10 t
 rw [show ((ofB [10]).data.toList) = [10] from rfl,bs_ofB,hc,splitK_ten] at h
 unfold splitL'
 rw [hc,← h,List.map_map]
 conv => lhs;rw [← List.map_id (Lib.splitB (ofB [10]) 0 (t.count 10) (ofB t))]
 rfl
theorem splitL_len (t : Bs) : (Rn.splitL t).length = t.count 10 + 1 := by
 rw [← splitK_ten]
 have := Lib.splitB_all (ofB [10]) (by decide) 0 (t.count 10) (ofB t) (Lib.count_one 10 t)
 have h := Lib.splitB_data (ofB [10]) 0 (t.count 10) (ofB t)
 rw [show ((ofB [10]).data.toList) = [10] from rfl,bs_ofB] at h
 rw [← h,List.length_map,this]
theorem splitL_mem : ∀ {t l : Bs},l ∈ Rn.splitL t → l.length ≤ t.length
 | [],l,h => by simp [Rn.splitL] at h;subst h;simp
 | c :: r,l,h => by
  unfold Rn.splitL at h
  split at h
  ·rcases List.mem_cons.1 h with rfl | h
   ·simp
   ·have := splitL_mem h;simp;omega
  ·split at h
   ·rename_i a ls e
    rcases List.mem_cons.1 h with rfl | h
    ·have := splitL_mem (t := r) (l := a) (by rw [e];simp);simp;omega
    ·have := splitL_mem (t := r) (l := l) (by rw [e];simp [h]);simp;omega
   ·simp at h;subst h;simp
theorem split_eq {p : Bool} {F : Nat} {h : H} {t : Bs} {m : Int} {cs : List Value} {es : Nat} {lv : Bool} {an : List Nat} (hg : hget h 4 = some (.cells (.int .i64 m :: cs) es lv an)) (ht : t.length < 4294967281) :
  cf p (F + 1) 18 [vs t,vs [10]] h = some (.slice (some ⟨h.size,0,none⟩) (Rn.splitL t).length (Rn.splitL t).length,Ev.newRow h ((Rn.splitL t).map vs) 1 []) := by
 rw [cf_X (x := xSplit) rfl]
 have hc : Lib.countB (ofB t) (ofB [10]) + 1 = (Rn.splitL t).length := by
  rw [splitL_len];congr 1;exact Lib.count_one 10 t
 have hs : (ofB t).size < 4294967281 ∧ 1 ≤ (ofB [10]).size := ⟨ht,by decide⟩
 simp only [xSplit,hg,if_pos hs,hc,split_lines,List.map_map]
 rfl
end Go.Proofs.YtnoghchcboiojaaGreatDoor
end
section
set_option maxRecDepth 100000
namespace Go.Proofs.YtnoghchcboiojaaGreatDoor
open Go.Ev
open Go.Rn (Bs Tok Ru St pLines PRes)
variable {p : Bool} {F : Nat} {h : H}
theorem lit_ten : str10 = ofB [10] := rfl
def zer : List Value := [vi 0,vi 0,vi 0,vi 0,vi 0,vi 0]
def RS9 : List ARes := [.cellN 2 6,.cell1 3,.cell1 4,.cell1 5]
def DS9 (B2 B3 B4 B5 B6 : Nat) : Ds := [⟨17,[.pointer (some ⟨B6,0,none⟩),.pointer (some ⟨B2,0,none⟩),.pointer (some ⟨B3,0,none⟩),.pointer (some ⟨B4,0,none⟩),.pointer (some ⟨B5,0,none⟩)]⟩]
def caught (g : H) (B2 B3 B4 B5 : Nat) (row : Int) : H := (((g.setIfInBounds B2 (.cells zer 0 true [])).setIfInBounds B3 (.cells [.slice none 0 0] 0 true [])).setIfInBounds B4 (.cells [vi 180] 0 true [])).setIfInBounds B5 (.cells [vi row] 0 true [])
structure Slots (g : H) (B2 B3 B4 B5 B6 : Nat) (b2 : List Value) (sv : Value) (row : Int) : Prop where
 g2 : hget g B2 = some (.cells b2 0 true [])
 l2 : b2.length = 6
 g3 : hget g B3 = some (.cells [sv] 0 true [])
 g4 : hget g B4 = some (.cells [vi 0] 0 true [])
 g5 : hget g B5 = some (.cells [vi 0] 0 true [])
 g6 : hget g B6 = some (.cells [vi row] 0 true [])
 d2 : B2 < B3
 d3 : B3 < B4
 d4 : B4 < B5
 d5 : B5 < B6
theorem catch_x {g : H} {B2 B3 B4 B5 B6 : Nat} {b2 : List Value} {sv : Value} {row : Int} (s : Slots g B2 B3 B4 B5 B6 b2 sv row) :
  xCatch [.pointer (some ⟨B6,0,none⟩),.pointer (some ⟨B2,0,none⟩),.pointer (some ⟨B3,0,none⟩),.pointer (some ⟨B4,0,none⟩),.pointer (some ⟨B5,0,none⟩)] g (some (.iface 48 (.agg ⟨[]⟩))) = some (none,caught g B2 B3 B4 B5 row) := by
 obtain ⟨g2,l2,g3,g4,g5,g6,d2,d3,d4,d5⟩ := s
 obtain ⟨x0,x1,x2,x3,x4,x5,rfl⟩ : ∃ x0 x1 x2 x3 x4 x5,b2 = [x0,x1,x2,x3,x4,x5] := by
  match b2,l2 with
  | [_,_,_,_,_,_],_ => exact ⟨_,_,_,_,_,_,rfl⟩
 have s2 := lt_of_get g2
 have s3 := lt_of_get g3
 have s4 := lt_of_get g4
 have s5 := lt_of_get g5
 have s6 := lt_of_get g6
 simp only [xCatch,r17]
 simp (disch := first|omega|(simp only [zS];first|done|omega)) [g2,g3,g4,g5,g6,kn0,caught,zer]
def errV (code row : Int) : Value := .tuple ⟨[.agg ⟨zer⟩,.slice none 0 0,vi code,vi row]⟩
theorem caught_kept {h0 g : H} {B2 B3 B4 B5 : Nat} {row : Int} (k : Kept h0 g []) (h2 : h0.size ≤ B2) (h3 : h0.size ≤ B3) (h4 : h0.size ≤ B4) (h5 : h0.size ≤ B5) : Kept h0 (caught g B2 B3 B4 B5 row) [] := by
 unfold caught
 exact kept_set (kept_set (kept_set (kept_set k h2) h3) h4) h5
theorem xd17 {args : List Value} {g : H} {m : Option Value} (hl : args.length = 5) : cfX XD 17 args g m = xCatch args g m := by
 simp [cfX,XD,hl]
theorem catch_eq {g : H} {B2 B3 B4 B5 B6 : Nat} {b2 : List Value} {sv : Value} {row : Int} (s : Slots g B2 B3 B4 B5 B6 b2 sv row) {e : Env}
  (e2 : e.get 2 = .pointer (some ⟨B2,0,none⟩)) (e3 : e.get 3 = .pointer (some ⟨B3,0,none⟩)) (e4 : e.get 4 = .pointer (some ⟨B4,0,none⟩)) (e5 : e.get 5 = .pointer (some ⟨B5,0,none⟩)) :
  evEnd (cfX XD) RS9 e (DS9 B2 B3 B4 B5 B6) g (some (.iface 48 (.agg ⟨[]⟩))) = some (errV 180 row,caught g B2 B3 B4 B5 row) := by
 have hx := catch_x s
 obtain ⟨g2,l2,g3,g4,g5,g6,d2,d3,d4,d5⟩ := s
 have s2 := lt_of_get g2
 have s3 := lt_of_get g3
 have s4 := lt_of_get g4
 have s5 := lt_of_get g5
 unfold DS9
 rw [evEnd_cons,xd17 rfl,hx]
 simp (disch := first|omega|(simp only [zS];first|done|omega)) [RS9,e2,e3,e4,e5,caught,zer,errV]
end Go.Proofs.YtnoghchcboiojaaGreatDoor
end
section
set_option maxRecDepth 100000
namespace Go.Proofs.YtnoghchcboiojaaGreatDoor
open Go.Ev
open Go.Rn (Bs Tok Ru St pLines PRes)
variable {p : Bool} {F : Nat} {h : H}
abbrev Stp := St × Nat × Nat
def StpR (h : H) (cs : List Value) (x : Stp) : Prop := ∃ ov,cs = stC x.1 ov ∧ Bld (fun b => x.2.1 ≤ b ∧ b < x.2.2) 5 OpR h ov x.1.ops
def Asc (lo hi : Nat) (xs : List Stp) : Prop := (∀ x ∈ xs,lo ≤ x.2.1 ∧ x.2.1 ≤ x.2.2 ∧ x.2.2 ≤ hi) ∧ xs.Pairwise (fun x y => x.2.2 ≤ y.2.1)
def okS (lo : Nat) (xs : List Stp) : Nat → Prop := fun b => lo ≤ b ∧ ∀ x ∈ xs,¬ (x.2.1 ≤ b ∧ b < x.2.2)
def StepsAt (lo : Nat) (h : H) (sv : Value) (xs : List Stp) : Prop := Bld (okS lo xs) 6 StpR h sv xs ∧ Asc lo h.size xs
theorem StpR.kept {h h' : H} {cs : List Value} {x : Stp} {L : List Nat} (s : StpR h cs x) (k : Kept h h' L) (hL : ∀ b ∈ L,¬ (x.2.1 ≤ b ∧ b < x.2.2)) : StpR h' cs x := by
 obtain ⟨ov,e,b⟩ := s
 exact ⟨ov,e,b.kept k hL fun _ _ _ q => q⟩
theorem StepsAt.kept {lo : Nat} {h h' : H} {sv : Value} {xs : List Stp} {L : List Nat} (s : StepsAt lo h sv xs) (k : Kept h h' L) (hL : ∀ b ∈ L,b < lo) : StepsAt lo h' sv xs := by
 obtain ⟨s1,s2,s3⟩ := s
 refine ⟨s1.kept k (fun b hb q => by have := hL b hb;have := q.1;omega) fun cs x hx q => q.kept k fun b hb => ?_,fun x hx => ?_,s3⟩
 ·have := hL b hb
  have := (s2 x hx).1
  omega
 ·have := s2 x hx
  have := k.1
  omega
theorem kept_in {g : H} {b : Nat} {x : Blk} {L : List Nat} (hb : b ∈ L) : Kept g (g.setIfInBounds b x) L :=
 ⟨by simp,fun c hc hn => by rw [set_other (fun e => hn (by first | (rw [e];exact hb) | (rw [← e];exact hb)))]⟩
theorem StepsAt.low {lo lo' : Nat} {h : H} {sv : Value} {xs : List Stp} (s : StepsAt lo h sv xs) (hl : lo' ≤ lo) : StepsAt lo' h sv xs :=
 ⟨s.1.imp fun b _ q => ⟨Nat.le_trans hl q.1,q.2⟩,fun x hx => ⟨Nat.le_trans hl (s.2.1 x hx).1,(s.2.1 x hx).2⟩,s.2.2⟩
def ParseQ (res : PRes) (h : H) (w : Value) (h' : H) : Prop := Kept h h' [] ∧ match res with
 | .ok r l => ∃ sv xs,l = xs.map (fun x => x.1) ∧ xs.length ≤ 400 ∧ w = .tuple ⟨[.agg ⟨ruC r⟩,sv,vi 0,vi 0]⟩ ∧ StepsAt h.size h' sv xs
 | .long row => w = errV 2 row
 | .bad row => w = errV 180 row
def endR (bg : Option Ru) (l : List St) : PRes := match bg with
 | some r => .ok r l
 | none => .bad 0
def bgC : Option Ru → List Value
 | some r => ruC r
 | none => zer
def E9 (p : Bool) (F : Nat) : K := evC (F + 8) (cxOf (cf p (F + 8)) (cfX XD) RS9) (.seq (.seq (.region r9_20 [2,3,4,5,6,56]) (.cond (.tmp 56) (.seq (.region r9_21 [2,3,4,5]) (.region r9_22 [2,3,4,5])) .skip)) (.seq (.regionD d9_23 [(1,[3])] [2,3,4,5]) .ret)) (endK (cfX XD) RS9) noK (endK (cfX XD) RS9)
theorem E9_eq {s : Env} {g : H} {ds : Ds} : E9 p F s g ds = evC (F + 8) (cxOf (cf p (F + 8)) (cfX XD) RS9) (.seq (.seq (.region r9_20 [2,3,4,5,6,56]) (.cond (.tmp 56) (.seq (.region r9_21 [2,3,4,5]) (.region r9_22 [2,3,4,5])) .skip)) (.seq (.regionD d9_23 [(1,[3])] [2,3,4,5]) .ret)) (endK (cfX XD) RS9) noK (endK (cfX XD) RS9) s g ds := nr rfl
theorem idle_x {B2 B3 B4 B5 B6 : Nat} {g : H} {e : Env} : endK (cfX XD) RS9 e g (DS9 B2 B3 B4 B5 B6) = evEnd (cfX XD) RS9 e [] g none := by
 unfold DS9
 rw [endK_cons,xd17 rfl]
 rfl
theorem SlR.sameV {α : Type} {ok : Nat → Prop} {w : Nat} {R : H → List Value → α → Prop} {h : H} {v : Value} {xs : List α} (s : SlR ok w R h v xs) : Ev.sameV v v = true := by
 rcases s with ⟨rfl | rfl,rfl⟩ | ⟨b,o,c,cs,rfl,_⟩ <;> simp [Ev.sameV,sameCell]
theorem E9_spec {h0 g : H} {B2 B3 B4 B5 B6 : Nat} {bg : Option Ru} {sv : Value} {row : Int} {xs : List Stp} {e : Env} (hk : Kept h0 g []) (h2 : h0.size ≤ B2)
  (s : Slots g B2 B3 B4 B5 B6 (bgC bg) sv row) (hS : StepsAt (B6 + 1) g sv xs) (hn : xs.length ≤ 400) :
  Ans (E9 p F ((2,.pointer (some ⟨B2,0,none⟩)) :: (3,.pointer (some ⟨B3,0,none⟩)) :: (4,.pointer (some ⟨B4,0,none⟩)) :: (5,.pointer (some ⟨B5,0,none⟩)) :: (6,.pointer (some ⟨B6,0,none⟩)) :: (7,.bool bg.isSome) :: e) g (DS9 B2 B3 B4 B5 B6))
   fun w h' => ParseQ (endR bg (xs.map fun x => x.1)) h0 w h' := by
 have hfail := fun g => fail_eq (p := p) (F := F + 7) (h := g)
 rw [E9_eq]
 cases bg with
 | none =>
  obtain ⟨g2,l2,g3,g4,g5,g6,d2,d3,d4,d5⟩ := s
  have s2 := lt_of_get g2
  have s3 := lt_of_get g3
  have s4 := lt_of_get g4
  have s5 := lt_of_get g5
  have s6 := lt_of_get g6
  simp (disch := first|omega|(simp only [zS];first|done|omega)) [r9_20,r9_21,r9_22,aUn,Option.isSome,g6,hfail]
  have hs : Slots (g.setIfInBounds B6 (.cells [vi 0] 0 true [])) B2 B3 B4 B5 B6 (bgC none) sv 0 :=
   ⟨by rw [set_other (by omega)];exact g2,l2,by rw [set_other (by omega)];exact g3,by rw [set_other (by omega)];exact g4,by rw [set_other (by omega)];exact g5,by simp (disch := first|omega|(simp only [zS];first|done|omega)) [],d2,d3,d4,d5⟩
  rw [catch_eq hs (by simp) (by simp) (by simp) (by simp)]
  exact Ans.of ⟨caught_kept (kept_set hk (by omega)) h2 (by omega) (by omega) (by omega),rfl⟩
 | some r =>
  have ss := s
  obtain ⟨g2,l2,g3,g4,g5,g6,d2,d3,d4,d5⟩ := s
  have s2 := lt_of_get g2
  have s3 := lt_of_get g3
  have s4 := lt_of_get g4
  have s5 := lt_of_get g5
  have s6 := lt_of_get g6
  have h1w := hS.1.sl.one
  have hvc := hS.1.sl.vc
  have hsv := SlR.sameV hS.1.sl
  unfold oneCell at h1w
  unfold vcells at hvc
  simp (disch := first|omega|(simp only [zS];first|done|omega)) [r9_20,aUn,Option.isSome,d9_23,g2,g3,g4,g5,bgC,ruC,hvc,h1w,List.getElem?_cons_zero,List.getElem?_cons_succ,dk_go,chks_nil,chks_cons,chkA_cons,chkA_nil,chk1_yes,hAt_eq,hOf_some,hOf_none,chkV_some,hsv,idle_x]
  simp (disch := first|omega|(simp only [zS];first|done|omega)) [RS9,hvc,h1w]
  refine Ans.of ⟨kept_set (kept_set (kept_set (kept_set hk h2) (by omega)) (by omega)) (by omega),sv,xs,rfl,hn,rfl,?_⟩
  refine (hS.kept (L := [B2,B3,B4,B5]) ?_ ?_).low (by omega)
  ·exact (((kept_in (by simp)).trans (kept_in (by simp))).trans (kept_in (by simp))).trans (kept_in (by simp))
  ·intro b hb
   simp at hb
   omega
end Go.Proofs.YtnoghchcboiojaaGreatDoor
end
section
set_option maxRecDepth 100000
namespace Go.Proofs.YtnoghchcboiojaaGreatDoor
open Go.Ev
theorem _root_.Go.Ev.Bld.appK {α : Type} {ok : Nat → Prop} {w : Nat} {R : H → List Value → α → Prop} {h : H} {v : Value} {xs : List α} {bytes : Nat} (s : Bld ok w R h v xs) {new : List Value} {ys : List α} (hn : new.length = ys.length * w) (hb : (xs.length + ys.length) * bytes ≤ 2 ^ 47)
  (hok : ok h.size) (hR : ∀ h',KeptC h h' [] → (∀ b,b < h.size → ¬ ok b → hget h' b = hget h b) → ∀ cs,∀ y ∈ xs,R h cs y → R h' cs y) (hx : ∀ h',KeptC h h' [] → (∀ b,b < h.size → ¬ ok b → hget h' b = hget h b) → ∀ (i : Nat) (y : α),ys[i]? = some y → R h' ((new.drop (i * w)).take w) y) :
  Ans (appendTo h w bytes v ys.length new) fun v' h' => Bld ok w R h' v' (xs ++ ys) ∧ KeptC h h' [] ∧ h'.size ≤ h.size + 1 ∧ (∀ b,b < h.size → (∀ o n c,v ≠ .slice (some ⟨b,o,none⟩) n c) → hget h' b = hget h b) ∧ (v' = v ∨ ∃ n c,v' = .slice (some ⟨h.size,0,none⟩) n c) := by
 by_cases hz : ys.length = 0
 ·have hys : ys = [] := List.length_eq_zero_iff.1 hz
  subst hys
  have e : appendTo h w bytes v 0 new = some (v,h) := by
   rcases s with ⟨rfl,rfl⟩ | ⟨b,cs,an,rfl,_⟩ <;> simp [appendTo]
  exact ⟨v,h,e,by simpa using s,KeptC.refl _ _,by omega,fun _ _ _ => rfl,.inl rfl⟩
 rcases s with ⟨rfl,rfl⟩ | ⟨b,cs,an,rfl,hk,hg,hl,hi⟩
 ·have kc : KeptC h (Ev.newRow h new w []) [] := ⟨by simp,fun c hc _ => cel_congr (by simp [hc])⟩
  have hb' : ys.length * bytes ≤ 140737488355328 := by simpa using hb
  have hz' : ¬ ys = [] := fun e => hz (by rw [e];rfl)
  refine ⟨.slice (some ⟨h.size,0,none⟩) ys.length ys.length,Ev.newRow h new w [],?_,?_,kc,by simp,fun c hc _ => by simp [hc],.inr ⟨_,_,rfl⟩⟩
  ·simp [appendTo,hb',hz']
  ·exact .inr ⟨h.size,new,[],rfl,⟨hok,by simp⟩,by simp,by simpa using hn,fun i y hy => hx _ kc (fun c hc _ => by simp [hc]) i y (by simpa using hy)⟩
 ·have hbs := lt_of_get hg
  have kc : KeptC h (Ev.newRow (h.setIfInBounds b (.cells cs w false an)) (cs ++ new) w (b :: an)) [] := by
   refine ⟨by simp,fun c hc _ => ?_⟩
   by_cases e : b = c
   ·subst e
    rw [cel_of hg]
    exact cel_of (es := w) (lv := false) (an := an) (by simp [hbs])
   ·exact cel_congr (by simp [hc,e])
  have kn : ∀ c,c < h.size → ¬ ok c → hget (Ev.newRow (h.setIfInBounds b (.cells cs w false an)) (cs ++ new) w (b :: an)) c = hget h c := fun c hc hn => by
   have : ¬ b = c := fun e => hn (e ▸ hk.1)
   simp [hc,this]
  have e2 : cs.take (xs.length * w) = cs := List.take_of_length_le (by omega)
  have hanc : ∀ a ∈ b :: an,ok a ∧ a < h.size := fun a ha => (List.mem_cons.1 ha).elim (fun e => e ▸ ⟨hk.1,hbs⟩) fun ha => ⟨(hk.2 a ha).1,Nat.lt_trans (hk.2 a ha).2 hbs⟩
  refine ⟨.slice (some ⟨h.size,0,none⟩) (xs.length + ys.length) (xs.length + ys.length),Ev.newRow (h.setIfInBounds b (.cells cs w false an)) (cs ++ new) w (b :: an),?_,?_,kc,by simp,?_,.inr ⟨_,_,rfl⟩⟩
  ·have hb' : (xs.length + ys.length) * bytes ≤ 140737488355328 := by simpa using hb
   have hz' : ¬ ys = [] := fun e => hz (by rw [e];rfl)
   have hnl : ¬ xs.length + ys.length ≤ xs.length := by omega
   simp [appendTo,hb',hg,hl,e2,hnl,hz']
  ·refine .inr ⟨h.size,cs ++ new,b :: an,by simp,⟨hok,hanc⟩,by simp,by simp [hl,hn,Nat.add_mul],?_⟩
   intro i y hy
   by_cases hi' : i < xs.length
   ·rw [List.getElem?_append_left hi'] at hy
    rw [drop_take_append cs new xs.length w i hl hi']
    exact hR _ kc kn _ _ (List.mem_of_getElem? hy) (hi i y hy)
   ·rw [List.getElem?_append_right (by omega)] at hy
    have := take_in_end cs new xs.length w (i - xs.length) hl
    rw [show xs.length + (i - xs.length) = i by omega] at this
    rw [this]
    exact hx _ kc kn _ _ hy
  ·intro c hc hn'
   have : ¬ b = c := fun e => hn' 0 _ _ (by rw [e])
   simp [hc,this]
theorem bld_put2 {α : Type} {h : H} {ok : Nat → Prop} {w bytes : Nat} {R : H → List Value → α → Prop} {v : Value} {xs : List α} (s : Bld ok w R h v xs) (new : List Value) {x : α} (hn : new.length = w) (hb : (xs.length + 1) * bytes ≤ 2 ^ 47)
  (hok : ok (h.size + 1)) (hx : ∀ h2,h.size ≤ h2.size → (∀ b,b < h.size → ¬ ok b → hget h2 b = hget h b) → R h2 new x) (hR1 : ∀ h1,Kept h h1 [] → ∀ cs,∀ y ∈ xs,R h cs y → R h1 cs y)
  (hR2 : ∀ h1 h2,Kept h h1 [] → h1.size ≤ h2.size → (∀ b,b < h1.size → ¬ ok b → hget h2 b = hget h1 b) → ∀ cs,∀ y ∈ xs,R h1 cs y → R h2 cs y) :
  ∃ v' h',appendTo (Ev.newRow h new w []) w bytes v 1 new = some (v',h') ∧ Bld ok w R h' v' (xs ++ [x]) ∧ h.size ≤ h'.size ∧ (∀ b,b < h.size → ¬ ok b → hget h' b = hget h b) := by
 have k0 := rowKept h new w []
 have s1 := s.kept k0 (by simp) fun cs y hy q => hR1 _ k0 cs y hy q
 have cmp : ∀ h',(∀ b,b < (Ev.newRow h new w []).size → ¬ ok b → hget h' b = hget (Ev.newRow h new w []) b) → ∀ b,b < h.size → ¬ ok b → hget h' b = hget h b := fun h' q b hb hn => (q b (by have := k0.1;omega) hn).trans (k0.get hb (by simp))
 obtain ⟨v',h',e,h1,h2,_,h4,_⟩ := s1.appK (ys := [x]) (bytes := bytes) (new := new) (by simpa using hn) hb (by simpa using hok) (fun h' k q cs y hy r => hR2 _ h' k0 k.1 q cs y hy r) fun h' k q i y hy => by
  cases i with
  | succ i => simp at hy
  | zero =>
   simp at hy
   subst hy
   rw [Nat.zero_mul,List.drop_zero,List.take_of_length_le (by omega)]
   exact hx h' (Nat.le_trans k0.1 k.1) (cmp h' q)
 refine ⟨v',h',e,h1,Nat.le_trans k0.1 h2.1,fun b hb hn => ?_⟩
 rw [h4 b (by have := k0.1;omega) (s1.ne hn),k0.get hb (by simp)]
theorem StpR.keep {h h2 : H} {cs : List Value} {x : Stp} (s : StpR h cs x) (k : ∀ b,b < h.size → x.2.1 ≤ b → b < x.2.2 → hget h2 b = hget h b) : StpR h2 cs x := by
 obtain ⟨ov,e,q | ⟨b,cs',an,e',hk,hg,r⟩⟩ := s
 ·exact ⟨ov,e,.inl q⟩
 ·exact ⟨ov,e,.inr ⟨b,cs',an,e',hk,(k b (lt_of_get hg) hk.1.1 hk.1.2).trans hg,r⟩⟩
theorem StepsAt.put {lo : Nat} {g2 g4 g5 : H} {sv ov : Value} {xs : List Stp} {st : Rn.St} {a b : Nat} (s : StepsAt lo g2 sv xs) (k : Kept g2 g4 []) (k5 : Kept g4 g5 []) (hlo : lo ≤ g2.size) (ha : g2.size ≤ a) (hab : a ≤ b) (hb : b ≤ g4.size)
  (hx : Bld (fun c => a ≤ c ∧ c < b) 5 OpR g4 ov st.ops) (hn : (xs.length + 1) * 72 ≤ 2 ^ 47) :
  ∃ sv' h',appendTo (Ev.newRow g5 (stC st ov) 6 []) 6 72 sv 1 (stC st ov) = some (sv',h') ∧ StepsAt lo h' sv' (xs ++ [(st,a,b)]) ∧ g5.size ≤ h'.size ∧ (∀ c,c < g5.size → ¬ okS lo (xs ++ [(st,a,b)]) c → hget h' c = hget g5 c) := by
 obtain ⟨s1,s2,s3⟩ := s
 have hz : g2.size ≤ g4.size := k.1
 have hz5 : g4.size ≤ g5.size := k5.1
 have s0 : Bld (okS lo (xs ++ [(st,a,b)])) 6 StpR g2 sv xs := s1.imp fun c hc q => ⟨q.1,fun x hx => by
  rcases List.mem_append.1 hx with hx | hx
  ·exact q.2 x hx
  ·simp at hx
   subst hx
   simp only
   omega⟩
 have s5 := s0.kept (k.trans k5) (by simp) fun cs x hx q => q.kept (k.trans k5) (by simp)
 have nok : ∀ y ∈ xs ++ [(st,a,b)],∀ c,y.2.1 ≤ c → c < y.2.2 → ¬ okS lo (xs ++ [(st,a,b)]) c := fun y hy c h1 h2 q => q.2 y hy ⟨h1,h2⟩
 obtain ⟨sv',h',e,r1,r2,r3⟩ := bld_put2 (x := (st,a,b)) (bytes := 72) s5 (stC st ov) rfl hn ⟨by omega,fun x hx => by
   rcases List.mem_append.1 hx with hx | hx
   ·have := s2 x hx
    omega
   ·simp at hx
    subst hx
    simp only
    omega⟩
  (fun h2 hs q => StpR.keep (h := g5) ⟨ov,rfl,hx.kept k5 (by simp) fun _ _ _ q => q⟩ fun c hc h1 h2 => q c hc (nok _ (by simp) c h1 h2))
  (fun h1 k1 cs y hy q => q.kept k1 (by simp))
  (fun h1 h2 k1 hs q cs y hy r => r.keep fun c hc a1 a2 => q c hc (nok y (by simp [hy]) c a1 a2))
 refine ⟨sv',h',e,⟨r1,fun x hx => ?_,?_⟩,r2,r3⟩
 ·rcases List.mem_append.1 hx with hx | hx
  ·have := s2 x hx
   omega
  ·simp at hx
   subst hx
   simp only
   omega
 ·rw [List.pairwise_append]
  refine ⟨s3,by simp,fun x hx y hy => ?_⟩
  simp at hy
  subst hy
  have := s2 x hx
  simp only
  omega
end Go.Proofs.YtnoghchcboiojaaGreatDoor
end
section
set_option maxRecDepth 100000
namespace Go.Proofs.YtnoghchcboiojaaGreatDoor
open Go.Ev
open Go.Rn (Bs Tok Ru St pLines PRes lex)
variable {p : Bool} {F : Nat} {h : H}
def L9 (p : Bool) (F : Nat) (fuel : Nat) : K := loopK (F + 8) (cxOf (cf p (F + 8)) (cfX XD) RS9) [2,3,4,5,6,7,18,19,20] l9_19 (putK 0 (E9 p F) noK) (endK (cfX XD) RS9) fuel
theorem L9_succ {n : Nat} {s : Env} {g : H} {ds : Ds} : L9 p F (n + 1) s g ds = evC (F + 8) (cxOf (cf p (F + 8)) (cfX XD) RS9) l9_19 (keepK [2,3,4,5,6,7,18,19,20] (L9 p F n)) (putK 0 (E9 p F) noK) (endK (cfX XD) RS9) s g ds := loopK_succ
theorem Slots.kept {g g' : H} {B2 B3 B4 B5 B6 : Nat} {b2 : List Value} {sv : Value} {row : Int} (s : Slots g B2 B3 B4 B5 B6 b2 sv row) (k : Kept g g' []) : Slots g' B2 B3 B4 B5 B6 b2 sv row := by
 obtain ⟨g2,l2,g3,g4,g5,g6,d2,d3,d4,d5⟩ := s
 have f : ∀ {b : Nat} {x : Blk},hget g b = some x → hget g' b = some x := fun {b x} e => (k.get (lt_of_get e) (by simp)).trans e
 exact ⟨f g2,l2,f g3,f g4,f g5,f g6,d2,d3,d4,d5⟩
theorem kept_past {g0 g g' : H} {r : Nat} (k : Kept g0 g []) (k' : Kept g g' [r]) (hr : g0.size ≤ r) : Kept g0 g' [] :=
 ⟨Nat.le_trans k.1 k'.1,fun b hb _ => (k'.2 b (Nat.lt_of_lt_of_le hb k.1) (by simp;omega)).trans (k.2 b hb (by simp))⟩
theorem parse_loop (hF : 4398046511200 < F) (h0 : H) (hG : Glo h0) (h14 : 14 ≤ h0.size) (B2 B3 B4 B5 B6 Lb : Nat) (h2 : h0.size ≤ B2) (hLb : B6 < Lb) (lines : List Bs) (hll : ∀ l ∈ lines,l.length ≤ 65536) (hln : lines.length ≤ 65537) (res : PRes) :
  ∀ (m i : Nat) (bg : Option Ru) (sv : Value) (xs : List Stp) (row : Int) (g : H),m = lines.length - i → i ≤ lines.length → Kept h0 g [] → Slots g B2 B3 B4 B5 B6 (bgC bg) sv row → cel g Lb = some (lines.map vs) →
   StepsAt (Lb + 1) g sv xs → xs.length ≤ 400 → res = pLines (lines.drop i) i bg (xs.map fun x => x.1) → ∀ fuel,m < fuel →
   Ans (L9 p F fuel [(2,.pointer (some ⟨B2,0,none⟩)),(3,.pointer (some ⟨B3,0,none⟩)),(4,.pointer (some ⟨B4,0,none⟩)),(5,.pointer (some ⟨B5,0,none⟩)),(6,.pointer (some ⟨B6,0,none⟩)),(7,.bool bg.isSome),
    (18,.slice (some ⟨Lb,0,none⟩) lines.length lines.length),(19,vi lines.length),(20,vi i)] g (DS9 B2 B3 B4 B5 B6)) fun w h' => ParseQ res h0 w h' := by
 intro m
 induction m with
 | zero =>
  intro i bg sv xs row g hm hi hk hs hlb hS hn hres fuel hfu
  obtain ⟨fuel,rfl⟩ : ∃ f',fuel = f' + 1 := ⟨fuel - 1,by omega⟩
  have e : i = lines.length := by omega
  subst e
  rw [L9_succ]
  simp (disch := first|omega|(simp only [zS];first|done|omega)) [l9_19,r9_7]
  have hres' : res = endR bg (xs.map fun x => x.1) := by
   rw [hres,List.drop_eq_nil_iff.2 (Nat.le_refl _)]
   cases bg <;> rfl
  rw [hres']
  exact E9_spec hk h2 hs (hS.low (by omega)) hn
 | succ m ih =>
  intro i bg sv xs row g hm hi hk hs hlb hS hn hres fuel hfu
  obtain ⟨fuel,rfl⟩ : ∃ f',fuel = f' + 1 := ⟨fuel - 1,by omega⟩
  have hil : i < lines.length := by omega
  have hli := List.getElem?_eq_getElem hil
  generalize lines[i] = l at hli
  have hlm := hll l (List.mem_of_getElem? hli)
  obtain ⟨es,lv,an,gL⟩ := cel_inv hlb
  have hsL := lt_of_get gL
  obtain ⟨y2,l2,y3,y4,y5,y6,d2,d3,d4,d5⟩ := hs
  have s2 := lt_of_get y2
  have s6 := lt_of_get y6
  have hil' : (i : Int) < lines.length := by omega
  have hrow : ((lines.map vs).drop i).take 1 = [vs l] := by
   rw [List.drop_eq_getElem_cons (by simpa using hil)]
   simp
   rw [(List.getElem?_eq_some_iff.1 hli).2]
  have hrl : i + 1 ≤ (lines.map vs).length := by simp;omega
  generalize lines.map vs = lvs at *
  rw [L9_succ]
  have hwr : IntKind.i64.wrap ((i : Int) + 1) = ((i + 1 : Nat) : Int) := by
   have := hrl
   rw [wrap_in (by omega) (by omega)];omega
  simp (disch := first|omega|(simp only [zS];first|done|omega)) [l9_19,r9_7,hil',r9_8,gL,hrow,hrl,r9_9,y6,r9_10,hwr]
  have hs1 : Slots (g.setIfInBounds B6 (.cells [vi ((i : Int) + 1)] 0 true [])) B2 B3 B4 B5 B6 (bgC bg) sv ((i : Int) + 1) :=
   ⟨by rw [set_other (by omega)];exact y2,l2,by rw [set_other (by omega)];exact y3,by rw [set_other (by omega)];exact y4,by rw [set_other (by omega)];exact y5,by simp (disch := first|omega|(simp only [zS];first|done|omega)) [],d2,d3,d4,d5⟩
  have k1 : Kept h0 (g.setIfInBounds B6 (.cells [vi ((i : Int) + 1)] 0 true [])) [] := kept_set hk (by omega)
  have hS1 : StepsAt (Lb + 1) (g.setIfInBounds B6 (.cells [vi ((i : Int) + 1)] 0 true [])) sv xs := hS.kept (L := [B6]) (kept_in (by simp)) (by simp;omega)
  have hL1 : cel (g.setIfInBounds B6 (.cells [vi ((i : Int) + 1)] 0 true [])) Lb = some lvs := (cel_congr (set_other (by omega))).trans hlb
  have z1 : Lb < (g.setIfInBounds B6 (.cells [vi ((i : Int) + 1)] 0 true [])).size := by simpa using hsL
  generalize g.setIfInBounds B6 (.cells [vi ((i : Int) + 1)] 0 true []) = g1 at *
  have e1 := words_spec (p := p) (F := F + 2) (h := g1) l (by omega) (by omega)
  refine Ans.nextC e1 ?_
  rintro w g2 ⟨k2,Q⟩
  have k12 := k1.trans k2
  have hs2 := hs1.kept k2
  have hS2 := hS1.kept k2 (by simp)
  have hL2 : cel g2 Lb = some lvs := (cel_congr (k2.get z1 (by simp))).trans hL1
  have z2 : Lb < g2.size := by have := k2.1;omega
  have hfin := fun e => catch_eq hs2 (e := e)
  have hkc := fun row => caught_kept (row := row) k12 h2 (show h0.size ≤ B3 by omega) (show h0.size ≤ B4 by omega) (show h0.size ≤ B5 by omega)
  cases hx : lex l with
  | none =>
   rw [hx] at Q
   simp only at Q
   subst Q
   simp (disch := first|omega|(simp only [zS];first|done|omega)) []
   rw [hfin _ (by simp) (by simp) (by simp) (by simp)]
   have hr1 : res = .bad (i + 1) := by rw [hres,drop_at hli];simp only [pLines,hx]
   rw [hr1]
   exact Ans.of ⟨hkc _,rfl⟩
  | some ts =>
   rw [hx] at Q
   simp only at Q
   obtain ⟨Q1,Q2⟩ := Q
   have hnp := one_np Q1.sl.one
   have h1w := Q1.sl.one
   have hvc := Q1.sl.vc
   unfold oneCell at h1w
   unfold vcells at hvc
   have hlen := Q1.sl.len
   rw [nextC_ok hnp]
   simp only [setD_some]
   have k3 := rowKept g2 [w,vi 0] 0 []
   have k13 := k12.trans k3
   have hs3 := hs2.kept k3
   have hS3 := hS2.kept k3 (by simp)
   have hL3 : cel (Ev.newRow g2 [w,vi 0] 0 []) Lb = some lvs := (cel_congr (k3.get z2 (by simp))).trans hL2
   have z3 : (Ev.newRow g2 [w,vi 0] 0 []).size = g2.size + 1 := by simp
   have R : RdAt (Ev.newRow g2 [w,vi 0] 0 []) g2.size w ts 0 :=
    ⟨by simp,(Q1.sl.imp (ok' := (· ≠ g2.size)) (fun b hb _ => by omega) (fun _ _ _ q => q) fun b cs _ hc => (cel_congr (k3.get (cel_lt hc) (by simp))).trans hc),by omega,by omega⟩
   simp (disch := first|omega|(simp only [zS];first|done|omega)) [hvc,h1w,r9_11,hlen]
   generalize Ev.newRow g2 [w,vi 0] 0 [] = g3 at *
   cases ts with
   | nil =>
    simp (disch := first|omega|(simp only [zS];first|done|omega)) [r9_18,hwr]
    refine ih (i + 1) bg sv xs _ g3 (by omega) (by omega) k13 hs3 hL3 hS3 hn ?_ fuel (by omega)
    rw [hres,drop_at hli];simp only [pLines,hx]
   | cons t0 ts =>
    have hne : ((ts.length : Int) + 1 == 0) = false := by simp;omega
    cases bg with
    | none =>
     have e4 := rules_spec (p := p) (F := F + 4) R (by omega)
     rw [List.drop_zero] at e4
     simp (disch := first|omega|(simp only [zS];first|done|omega)) [hne,r9_12,aUn,Option.isSome,r9_13]
     refine Ans.nextC e4 ?_
     rintro w4 g4 ⟨k4,⟨ru,q1,rfl⟩ | ⟨q1,rfl⟩⟩
     ·have k24 := kept_past k3 k4 (Nat.le_refl _)
      have hs4 := hs2.kept k24
      have hS4 := hS2.kept k24 (by simp)
      have hL4 : cel g4 Lb = some lvs := (cel_congr (k24.get z2 (by simp))).trans hL2
      have k14 := k12.trans k24
      obtain ⟨c2,_,c3,c4,c5,c6,_⟩ := hs4
      have t2 := lt_of_get c2
      simp (disch := first|omega|(simp only [zS];first|done|omega)) [ruC,c2,bgC,zer,r9_18,hwr]
      refine ih (i + 1) (some ru) sv xs ((i : Int) + 1) _ (by omega) (by omega) (kept_set k14 h2) ⟨?_,rfl,?_,?_,?_,?_,d2,d3,d4,d5⟩ ?_ ?_ hn ?_ fuel (by omega)
      ·simp (disch := first|omega|(simp only [zS];first|done|omega)) [bgC,ruC]
      ·rw [set_other (by omega)];exact c3
      ·rw [set_other (by omega)];exact c4
      ·rw [set_other (by omega)];exact c5
      ·rw [set_other (by omega)];exact c6
      ·exact (cel_congr (set_other (by omega))).trans hL4
      ·exact hS4.kept (L := [B2]) (kept_in (by simp)) (by simp;omega)
      ·rw [hres,drop_at hli];simp only [pLines,hx,q1]
     ·have k24 := kept_past k3 k4 (Nat.le_refl _)
      have hs4 := hs2.kept k24
      simp (disch := first|omega|(simp only [zS];first|done|omega)) []
      rw [catch_eq hs4 (by simp) (by simp) (by simp) (by simp)]
      have hr1 : res = .bad (i + 1) := by rw [hres,drop_at hli];simp only [pLines,hx,q1]
      rw [hr1]
      exact Ans.of ⟨caught_kept (k12.trans k24) h2 (by omega) (by omega) (by omega),rfl⟩
    | some r0 =>
     have e4 := step_spec (p := p) (F := F) R (hG.kept0 k13) (by have := k12.1;omega) hF
     rw [List.drop_zero] at e4
     simp (disch := first|omega|(simp only [zS];first|done|omega)) [hne,r9_12,aUn,Option.isSome,r9_14]
     refine Ans.nextC e4 ?_
     rintro w4 g4 ⟨k4,⟨st,ov,q1,rfl,q2⟩ | ⟨q1,rfl⟩⟩
     ·have k24 := kept_past k3 k4 (Nat.le_refl _)
      have hs4 := hs2.kept k24
      have hS4 := hS2.kept k24 (by simp)
      have hL4 : cel g4 Lb = some lvs := (cel_congr (k24.get z2 (by simp))).trans hL2
      have k14 := k12.trans k24
      obtain ⟨c2,_,c3,c4,c5,c6,_⟩ := hs4
      have t2 := lt_of_get c2
      have t3 := lt_of_get c3
      have t6 := lt_of_get c6
      have ow := q2.sl.one
      have ovc := q2.sl.vc
      unfold oneCell at ow
      unfold vcells at ovc
      have slen := hS4.1.sl.len
      have k5 := rowKept g4 (stC st ov) 0 []
      have b11 : hget (Ev.newRow g4 (stC st ov) 0 []) g4.size = some (.cells (stC st ov) 0 true []) := by simp
      have hx4 : Bld (fun c => g3.size ≤ c ∧ c < g4.size) 5 OpR g4 ov st.ops := q2.imp fun b hb q => ⟨q,hb⟩
      have k15 := k14.trans k5
      have hs5 := Slots.kept ⟨c2,l2,c3,c4,c5,c6,d2,d3,d4,d5⟩ k5
      have hS5 := hS4.kept k5 (by simp)
      have hL5 : cel (Ev.newRow g4 (stC st ov) 0 []) Lb = some lvs := (cel_congr (k5.get (by have := k24.1;omega) (by simp))).trans hL4
      have hput := hS2.put k24 k5 (by omega) (show g2.size ≤ g3.size by omega) k4.1 (Nat.le_refl _) hx4
      have z5 : (Ev.newRow g4 (stC st ov) 0 []).size = g4.size + 1 := by simp
      have eq1 : Ev.newRow g4 [vi st.kind,vi st.a,vi st.b,vi st.c,vs st.place,ov] 0 [] = Ev.newRow g4 (stC st ov) 0 [] := rfl
      simp (disch := first|omega|(simp only [zS];first|done|omega)) [stC,ovc,ow,r9_15,c3,slen]
      rw [eq1]
      generalize Ev.newRow g4 (stC st ov) 0 [] = g5 at *
      by_cases h400 : xs.length = 400
      ·have hq : ((xs.length : Int) == 400) = true := by simp [h400]
       obtain ⟨c2,_,c3,c4,c5,c6,_⟩ := hs5
       have t2 := lt_of_get c2
       have t3 := lt_of_get c3
       have t4 := lt_of_get c4
       have t5 := lt_of_get c5
       have t6 := lt_of_get c6
       simp (disch := first|omega|(simp only [zS];first|done|omega)) [hq,d9_16,c2,c3,c4,c5,c6,bgC,ruC,List.getElem?_cons_zero,List.getElem?_cons_succ,dk_go,chks_nil,chks_cons,chkA_cons,chkA_nil,chk1_yes,hAt_eq,hOf_some,hOf_none,chkV_some,sameV,sameCell,idle_x]
       simp (disch := first|omega|(simp only [zS];first|done|omega)) [RS9]
       have hr1 : res = .long (i + 1) := by rw [hres,drop_at hli];simp only [pLines,hx,q1];simp [h400]
       rw [hr1]
       exact Ans.of ⟨kept_set (kept_set (kept_set (kept_set k15 h2) (by omega)) (by omega)) (by omega),rfl⟩
      ·have hq : ((xs.length : Int) == 400) = false := by simp;omega
       obtain ⟨c2,_,c3,c4,c5,c6,_⟩ := hs5
       have t3 := lt_of_get c3
       have hput' := hput (by omega)
       clear hput
       obtain ⟨sv',g6,e6,f1,f2,f3⟩ := hput'
       simp only [stC] at b11 e6
       have w1 := f1.1.sl.one
       have w2 := f1.1.sl.vc
       unfold oneCell at w1
       unfold vcells at w2
       have nok : ∀ c,c < Lb + 1 → c < g5.size → hget g6 c = hget g5 c := fun c hc hs => f3 c hs fun q => by have := q.1;omega
       have y3' := (nok B3 (by omega) (by omega)).trans c3
       have hsv' := lt_of_get y3'
       simp (disch := first|omega|(simp only [zS];first|done|omega)) [hq,r9_17,c3,b11,ovc,ow,e6,srcOf,isText,w1,w2,y3',r9_18,hwr]
       clear hwr
       have t6 := lt_of_get c6
       have hzL : Lb < g5.size := cel_lt hL5
       have k16 : Kept h0 g6 [] := kept_of k15 f2 fun b hb => nok b (by omega) (by have := k15.1;omega)
       refine ih (i + 1) (some r0) sv' (xs ++ [(st,g3.size,g4.size)]) ((i : Int) + 1) _ (by omega) (by omega) (kept_set k16 (by omega)) ⟨?_,l2,?_,?_,?_,?_,d2,d3,d4,d5⟩ ?_ ?_ ?_ ?_ fuel (by omega)
       ·rw [set_other (by omega),nok _ (by omega) (by omega)];exact c2
       ·simp (disch := first|omega|(simp only [zS];first|done|omega)) []
       ·rw [set_other (by omega),nok _ (by omega) (by omega)];exact c4
       ·rw [set_other (by omega),nok _ (by omega) (by omega)];exact c5
       ·rw [set_other (by omega),nok _ (by omega) (by omega)];exact c6
       ·exact (cel_congr ((set_other (by omega)).trans (nok _ (by omega) hzL))).trans hL5
       ·exact f1.kept (L := [B3]) (kept_in (by simp)) (by simp;omega)
       ·simp;omega
       ·have hr1 : res = pLines (lines.drop (i + 1)) (i + 1) (some r0) ((xs.map fun x => x.1) ++ [st]) := by rw [hres,drop_at hli];simp only [pLines,hx,q1];simp [h400]
        rw [hr1];simp
     ·have k24 := kept_past k3 k4 (Nat.le_refl _)
      have hs4 := hs2.kept k24
      simp (disch := first|omega|(simp only [zS];first|done|omega)) []
      rw [catch_eq hs4 (by simp) (by simp) (by simp) (by simp)]
      have hr1 : res = .bad (i + 1) := by rw [hres,drop_at hli];simp only [pLines,hx,q1]
      rw [hr1]
      exact Ans.of ⟨caught_kept (k12.trans k24) h2 (by omega) (by omega) (by omega),rfl⟩
end Go.Proofs.YtnoghchcboiojaaGreatDoor
end
section
set_option maxRecDepth 100000
namespace Go.Proofs.YtnoghchcboiojaaGreatDoor
open Go.Ev
open Go.Rn (Bs Tok Ru St pLines PRes lex)
variable {p : Bool} {F : Nat} {h : H}
theorem deferK_val {f : Operand} {args : List Operand} {keep : List Nat} {kn : K} {s : Env} {h : H} {ds : Ds} {g : FuncId} {first cap : List Value} (e : aeval s f = .func (.func g) ⟨first⟩ ⟨cap⟩) : deferK f args keep kn s h ds = kn (s.keep keep) h (⟨g,first ++ args.map (aeval s) ++ cap⟩ :: ds) := by
 unfold deferK evDefer
 rw [e]
theorem DS9_is {B2 B3 B4 B5 B6 : Nat} : [(⟨17,[.pointer (some ⟨B6,0,none⟩),.pointer (some ⟨B2,0,none⟩),.pointer (some ⟨B3,0,none⟩),.pointer (some ⟨B4,0,none⟩),.pointer (some ⟨B5,0,none⟩)]⟩ : ADef)] = DS9 B2 B3 B4 B5 B6 := rfl
theorem RS9_is : [ARes.cellN 2 6,.cell1 3,.cell1 4,.cell1 5] = RS9 := rfl
theorem parse_spec (t : Bs) (hG : Glo h) (h14 : 14 ≤ h.size) (hF : 4398046511200 < F) : Ans (cf p (F + 9) 9 [vs t] h) fun w h' => ParseQ (Rn.parse t) h w h' := by
 rw [cf_step (a := a9) rfl rfl (by simp [a9])]
 have k2 := rowKept h zer 0 []
 have k3 := k2.trans (rowKept _ [.slice none 0 0] 0 [])
 have k4 := k3.trans (rowKept _ [vi 0] 0 [])
 have k5 := k4.trans (rowKept _ [vi 0] 0 [])
 have k6 := k5.trans (rowKept _ [vi 0] 0 [])
 by_cases hl : (65536 : Int) < t.length
 ·have hp : Rn.parse t = .long 0 := by unfold Rn.parse;rw [if_pos (by omega)]
  rw [hp]
  simp (disch := first|omega|(simp only [zS];first|done|omega)) [a9,r9_0,r9_1,r9_2,hl]
  refine Ans.of ⟨?_,rfl⟩
  exact kept_set (kept_set (kept_set (kept_set k5 (by omega)) (by omega)) (by omega)) (by omega)
 ·have hp : Rn.parse t = pLines (Rn.splitL t) 0 none [] := by unfold Rn.parse;rw [if_neg (by omega)]
  rw [hp]
  have hs : Slots (Ev.newRow (Ev.newRow (Ev.newRow (Ev.newRow (Ev.newRow h zer 0 []) [.slice none 0 0] 0 []) [vi 0] 0 []) [vi 0] 0 []) [vi 0] 0 []) h.size (h.size + 1) (h.size + 2) (h.size + 1 + 2) (h.size + 2 + 2) (bgC none) (.slice none 0 0) 0 :=
   ⟨by simp [bgC],rfl,by simp,by simp,by simp,by simp,by omega,by omega,by omega,by omega⟩
  have z6 : (Ev.newRow (Ev.newRow (Ev.newRow (Ev.newRow (Ev.newRow h zer 0 []) [.slice none 0 0] 0 []) [vi 0] 0 []) [vi 0] 0 []) [vi 0] 0 []).size = h.size + 5 := by simp
  have eqz : Ev.newRow h [vi 0,vi 0,vi 0,vi 0,vi 0,vi 0] 0 [] = Ev.newRow h zer 0 [] := rfl
  simp (disch := first|omega|(simp only [zS];first|done|omega)) [a9,r9_0,r9_1,r9_3,r9_4,hl]
  rw [eqz]
  generalize Ev.newRow (Ev.newRow (Ev.newRow (Ev.newRow (Ev.newRow h zer 0 []) [.slice none 0 0] 0 []) [vi 0] 0 []) [vi 0] 0 []) [vi 0] 0 [] = g at *
  obtain ⟨mx,hmx⟩ := (hG.kept0 k6).maxl
  have e1 := split_eq (p := p) (F := F + 7) hmx (t := t) (by omega)
  have k7 := rowKept g ((Rn.splitL t).map vs) 1 []
  have hL : cel (Ev.newRow g ((Rn.splitL t).map vs) 1 []) g.size = some ((Rn.splitL t).map vs) := cel_of (es := 1) (lv := true) (an := []) (by simp)
  have hn : (Rn.splitL t).length ≤ 65537 := by
   rw [splitL_len]
   have := List.count_le_length (a := (10 : UInt8)) (l := t)
   omega
  simp (disch := first|omega|(simp only [zS];first|done|omega)) [RS9_is,lit_ten,r9_5,r9_6]
  rw [deferK_val (g := 17) (first := []) (by simp;rfl)]
  simp (disch := first|omega|(simp only [zS];first|done|omega)) [DS9_is,e1]
  generalize Ev.newRow g ((Rn.splitL t).map vs) 1 [] = g1 at *
  have main := parse_loop (p := p) (F := F) hF h hG h14 h.size (h.size + 1) (h.size + 2) (h.size + 1 + 2) (h.size + 2 + 2) g.size (Nat.le_refl _) (by omega) (Rn.splitL t) (fun l hl' => by have := splitL_mem hl';omega) hn (pLines (Rn.splitL t) 0 none [])
   _ 0 none (.slice none 0 0) [] 0 g1 rfl (Nat.zero_le _) (k6.trans k7) (hs.kept k7) hL ⟨Bld.nil _ _ _ _,by simp,by simp⟩ (by simp) rfl (F + 8) (by omega)
  exact main
end Go.Proofs.YtnoghchcboiojaaGreatDoor
end
section
set_option maxRecDepth 100000
namespace Go.Proofs.YtnoghchcboiojaaGreatDoor
open Go.Ev
open Go.Rn (Bs Tok OA Ar opTab stepTab)
variable {p : Bool} {F : Nat} {h : H}
def headV (l : Bs) : Value := .tuple ⟨[vs (l.takeWhile (· ≠ 32)),vs ((l.dropWhile (· ≠ 32)).drop 1)]⟩
theorem head_eq (l : Bs) (hF : l.length + 1 < F) (hl : l.length < 140737488355328) : cf p (F + 1) 52 [vs l] h = some (headV l,h) := by
 rw [cf_step (a := a52) rfl rfl (by simp [a52])]
 apply Ans.to_eq
 simp [a52,r52_0,r52_1]
 refine loop_rule (fun m s h' => ∃ i : Nat,i ≤ l.length ∧ m = l.length - i ∧ h' = h ∧ s = [(0,vs l),(4,vi i)] ∧ l.takeWhile (· ≠ 32) = l.take i ++ (l.drop i).takeWhile (· ≠ 32) ∧ l.dropWhile (· ≠ 32) = (l.drop i).dropWhile (· ≠ 32))
  ?_ F (l.length - 0) _ h (by omega) ⟨0,by omega,rfl,rfl,rfl,by simp,by simp⟩
 rintro m s h' again ⟨i,hi,rfl,rfl,rfl,q1,q2⟩ hag
 by_cases hlt : i < l.length
 ·obtain ⟨c,hc⟩ : ∃ c,l[i]? = some c := ⟨_,List.getElem?_eq_getElem hlt⟩
  have hd := drop_cons hc
  have hlt' : (i : Int) < l.length := by omega
  have g1 : atS (ofB l) (i : Int) h' = some (.int .u8 c.toNat,h') := atS_ofB hc
  have w0 : IntKind.i64.wrap ((i : Int) + 1) = (i : Int) + 1 := wrap_in (by omega) (by omega)
  rw [hd,List.takeWhile_cons] at q1
  rw [hd,List.dropWhile_cons] at q2
  by_cases h32 : c = 32
  ·subst h32
   simp at q1 q2
   have c1 : cutS (ofB l) 0 i h' = some (vs (l.take i),h') := by rw [cutS_ofB (by omega) (by omega)];simp
   have c2 : cutS (ofB l) (i + 1) l.length h' = some (vs (l.drop (i + 1)),h') := by rw [cutS_ofB (by omega) (Nat.le_refl _),List.take_of_length_le (by simp)]
   have z1 : (0 : Int) ≤ (i : Int) + 1 := by omega
   have z2 : ((i : Int) + 1).toNat = i + 1 := by omega
   simp [l52_6,r52_2,r52_3,d52_4,hlt',g1,w0,pcS_eq,c1,c2,z1,z2]
   refine Ans.of ⟨?_,rfl⟩
   simp [headV,q1,q2]
  ·simp [h32] at q1 q2
   simp [l52_6,r52_2,r52_3,r52_5,hlt',g1,h32,w0]
   refine hag (l.length - (i + 1)) [(0,vs l),(4,vi ((i : Int) + 1))] _ (by omega) ⟨i + 1,by omega,rfl,rfl,by simp,?_,?_⟩
   ·rw [List.take_add_one,hc]
    simp only [Option.toList_some,List.append_assoc,List.singleton_append]
    simpa using q1
   ·simpa using q2
 ·have : i = l.length := by omega
  subst this
  rw [List.drop_eq_nil_iff.2 (Nat.le_refl _)] at q1 q2
  simp at q1 q2
  simp [l52_6,r52_2,r52_7]
  refine Ans.of ⟨?_,rfl⟩
  simp [headV,q1,q2,lit_nil]
def oaR : OA → UInt8
 | .p => 80
 | .d => 68
 | .v => 86
 | .f => 70
def opLs : List Bs := [] :: opTab.map fun q => q.1 ++ 32 :: q.2.map oaR
def arR : Ar → UInt8
 | .a => 78
 | .b => 78
 | .c => 78
 | .p => 80
 | .k => 75
 | .o => 79
def stepLs : List Bs := [] :: stepTab.map fun q => q.1 ++ 32 :: q.2.map arR
structure GloR (h : H) : Prop where
 lines : hget h 0 = some (.cells (stepLs.map vs) 0 false [])
 opl : hget h 3 = some (.cells (opLs.map vs) 0 false [])
theorem GloR.kept {h' : H} (g : GloR h) (k : Kept h h' []) : GloR h' := ⟨(k.get (lt_of_get g.lines) (by simp)).trans g.lines,(k.get (lt_of_get g.opl) (by simp)).trans g.opl⟩
theorem opLs_head : ∀ q ∈ opTab,headV (q.1 ++ 32 :: q.2.map oaR) = .tuple ⟨[vs q.1,vs (q.2.map oaR)]⟩ ∧ (q.1 ++ 32 :: q.2.map oaR).length ≤ 30 ∧ q.2.length ≤ 8 := by
 intro q hq
 simp only [opTab,List.mem_cons,List.not_mem_nil,or_false] at hq
 rcases hq with rfl | rfl | rfl | rfl | rfl | rfl | rfl <;> exact ⟨rfl,by decide,by decide⟩
theorem stepLs_hd : ∀ q ∈ stepTab,headV (q.1 ++ 32 :: q.2.map arR) = .tuple ⟨[vs q.1,vs (q.2.map arR)]⟩ ∧ (q.1 ++ 32 :: q.2.map arR).length ≤ 30 ∧ q.2.length ≤ 8 := by
 intro q hq
 simp only [stepTab,List.mem_cons,List.not_mem_nil,or_false] at hq
 rcases hq with rfl | rfl | rfl | rfl | rfl | rfl | rfl | rfl | rfl | rfl | rfl | rfl | rfl | rfl | rfl | rfl <;> exact ⟨rfl,by decide,by decide⟩
end Go.Proofs.YtnoghchcboiojaaGreatDoor
end
section
set_option maxRecDepth 100000
namespace Go.Proofs.YtnoghchcboiojaaGreatDoor
open Go.Ev
open Go.Rn (Bs numT placed quote bare)
variable {p : Bool} {F : Nat} {h : H}
def offT : Option Bs → Value
 | some t => vs t
 | none => off
theorem itoa_call (n : Int) (h1 : -9223372036854775808 ≤ n) (h2 : n ≤ 9223372036854775807) : cf p (F + 1) 55 [vi n] h = some (vs (Lib.itoa n),h) := by
 rw [cf_X rfl]
 simp only [xItoa,if_pos (And.intro h1 h2)]
 rfl
theorem number_eq (n : Int) : cf p (F + 2) 31 [vi n] h = some (offT (numT n),h) := by
 rw [cf_step (a := a31) rfl rfl (by simp [a31])]
 have e1 := fail_eq (p := p) (F := F) (h := h)
 unfold numT
 by_cases h1 : n < -2147483647
 ·have h1' : ¬ (-2147483647 ≤ n ∧ n ≤ 2147483647) := by omega
  rw [if_neg h1']
  simp [a31,r31_0,r31_1,r31_2,h1,e1,offT]
 ·by_cases h2 : 2147483647 < n
  ·have h1' : ¬ (-2147483647 ≤ n ∧ n ≤ 2147483647) := by omega
   rw [if_neg h1']
   simp [a31,r31_0,r31_1,r31_2,h1,h2,e1,offT]
  ·have h1' : (-2147483647 ≤ n ∧ n ≤ 2147483647) := by omega
   have e2 := itoa_call (p := p) (F := F) (h := h) n (by omega) (by omega)
   rw [if_pos h1']
   simp [a31,r31_0,r31_1,r31_3,h1,h2,e2,offT]
theorem rnum_eq (n : Int) (h1 : -9223372036854775808 ≤ n) (h2 : n ≤ 9223372036854775807) : cf p (F + 2) 35 [vi n] h = some (.tuple ⟨[vs (Lib.itoa n),.bool (numT n).isSome]⟩,h) := by
 rw [cf_step (a := a35) rfl rfl (by simp [a35])]
 have e2 := itoa_call (p := p) (F := F) (h := h) n h1 h2
 unfold numT
 by_cases h3 : -2147483647 ≤ n
 ·by_cases h4 : n ≤ 2147483647
  ·simp [a35,r35_0,r35_1,h3,h4,e2]
  ·simp [a35,r35_0,r35_1,h3,h4,e2]
 ·simp [a35,r35_0,r35_1,h3,e2]
def heldT (t : Bs) : Option Bs := if t.length ≤ 256 then some t else none
theorem held_eq (t : Bs) : cf p (F + 2) 63 [vs t] h = some (offT (heldT t),h) := by
 rw [cf_step (a := a63) rfl rfl (by simp [a63])]
 have e1 := fail_eq (p := p) (F := F) (h := h)
 unfold heldT
 by_cases h1 : (256 : Int) < t.length
 ·rw [if_neg (by omega)]
  simp [a63,r63_0,r63_1,r63_2,h1,e1,offT]
 ·rw [if_pos (by omega)]
  simp [a63,r63_0,r63_1,r63_3,h1,offT]
theorem quote_call (t : Bs) (hl : t.length ≤ 35184372000000) : cf p (F + 1) 95 [vs t] h = some (vs (quote t),h) := by
 rw [cf_X rfl]
 have : (ofB t).size ≤ 35184372000000 := hl
 simp only [xQuote,if_pos this]
 rfl
theorem takeWhile_all (l : Bs) (q : UInt8 → Bool) : (l.takeWhile q).length = l.length ↔ l.all q = true := by
 induction l with
 | nil => simp
 | cons c l ih =>
  rw [List.takeWhile_cons,List.all_cons]
  cases q c with
  | true => simp only [if_true,List.length_cons,Bool.true_and,← ih];omega
  | false => simp
theorem placed_eq (t : Bs) (hF : t.length < F) (hl : t.length ≤ 35184372000000) : cf p (F + 4) 62 [vs t] h = some (vs (placed t),h) := by
 rw [cf_step (a := a62) rfl rfl (by simp [a62])]
 have e1 := quote_call (p := p) (F := F + 2) (h := h) t hl
 have e2 := count_eq (p := p) (F := F + 2) (h := h) (g := 75) (q := bare) (fun c => place_eq c) t (by omega) (by omega)
 unfold placed
 cases t with
 | nil =>
  simp [a62,r62_0,r62_1,r62_3,ofB_bne,lit_nil,e1]
 | cons c r =>
  have g1 : atS (ofB (c :: r)) 0 h = some (.int .u8 c.toNat,h) := atS_ofB (i := 0) rfl
  by_cases h47 : c = 47
  ·have hh : (c :: r).head? = some 47 := by simp [h47]
   have hk := takeWhile_all (c :: r) bare
   cases hall : (c :: r).all bare with
   | true =>
    have hlen := hk.2 hall
    rw [hlen] at e2
    rw [if_pos ⟨hh,rfl⟩]
    have h47' := eq_true h47
    simp [a62,r62_0,r62_1,r62_2,ofB_bne,lit_nil,g1,h47',e2]
   | false =>
    have hlen : ¬ ((c :: r).takeWhile bare).length = (c :: r).length := fun q => by rw [hk.1 q] at hall;cases hall
    have hlt : (((c :: r).takeWhile bare).length : Int) ≠ (r.length : Int) + 1 := by simp at hlen;simp;omega
    rw [if_neg (by simp)]
    have h47' := eq_true h47
    generalize (c :: r).takeWhile bare = T at *
    have hb : ((T.length : Int) == (r.length : Int) + 1) = false := beq_eq_false_iff_ne.2 hlt
    simp [a62,r62_0,r62_1,r62_3,ofB_bne,lit_nil,g1,h47',e2,hb,e1]
  ·have hh : ¬ (c :: r).head? = some 47 := by simpa using h47
   rw [if_neg (fun q => hh q.1)]
   simp [a62,r62_0,r62_1,r62_3,ofB_bne,lit_nil,g1,h47,e1]
end Go.Proofs.YtnoghchcboiojaaGreatDoor
end
section
set_option maxRecDepth 100000
namespace Go.Proofs.YtnoghchcboiojaaGreatDoor
open Go.Ev
open Go.Rn (Bs OA opTab opT opArgT opRes clrO joinW joinS placed quote numT w_brief w_counted)
variable {p : Bool} {F : Nat} {h : H}
def TxR (_ : H) (cs : List Value) (t : Bs) : Prop := cs = [vs t]
theorem textsOf_vs : ∀ ws : List Bs,textsOf (ws.map vs) = some (ws.map ofB)
 | [] => rfl
 | w :: l => by simp [textsOf,textsOf_vs l]
theorem join_call {ok : Nat → Prop} {v : Value} {ws : List Bs} {sep : Bs} (s : SlR ok 1 TxR h v ws) (hne : ws ≠ []) (hn : ws.length ≤ 140737488355328) (hl : (Lib.join ws sep).length ≤ 140737488355328) :
  cf p (F + 1) 65 [v,vs sep] h = some (vs (Lib.join ws sep),h) := by
 rw [cf_X (x := xJoin) rfl]
 obtain ⟨new,h1,h2,h3⟩ := s.src (by decide) fun cs x _ q => by rw [show cs = _ from q];rfl
 have hnew : new = ws.map vs := by
  apply List.ext_getElem? fun i => ?_
  by_cases hi : i < ws.length
  ·obtain ⟨w,hw⟩ : ∃ w,ws[i]? = some w := ⟨_,List.getElem?_eq_getElem hi⟩
   have q : (new.drop (i * 1)).take 1 = [vs w] := h3 i w hw
   rw [Nat.mul_one] at q
   rw [List.getElem?_map,hw]
   have : ((new.drop i).take 1)[0]? = some (vs w) := by rw [q];rfl
   rw [List.getElem?_take,if_pos (by decide),List.getElem?_drop] at this
   simpa using this
  ·rw [List.getElem?_eq_none (by omega),List.getElem?_eq_none (by simp;omega)]
 subst hnew
 have hpos : 0 < ws.length := by cases ws with | nil => exact absurd rfl hne | cons a l => simp
 obtain ⟨b,o,c,cs,rfl,hc,_,_,_⟩ := s.row hpos
 have hz : ¬ ws.length = 0 := by omega
 have hrd : rd h b o ws.length = some (ws.map vs) := by
  simp only [srcOf,if_neg hz,Nat.mul_one] at h1
  obtain ⟨l,e1,e2⟩ := Option.map_eq_some_iff.1 h1
  cases e2
  exact e1
 have hj : joinT (ws.map ofB) (ofB sep) = Lib.join ws sep := by
  unfold joinT
  rw [List.map_map]
  have : (fun x : ByteArray => x.data.toList) ∘ ofB = id := by funext x;rfl
  rw [this,List.map_id];rfl
 simp only [xJoin,if_pos (And.intro hn hc),hrd,textsOf_vs,hj,if_pos (And.intro hl hpos)]
 rfl
theorem TxR.kc {g g' : H} (cs : List Value) (x : Bs) (q : TxR g cs x) : TxR g' cs x := q
theorem word_put {ok : Nat → Prop} {v : Value} {xs : List Bs} (s : Bld ok 1 TxR h v xs) (t : Bs) (hok : ok (h.size + 1)) (hb : xs.length ≤ 1000) :
  ∃ v' h',appendTo (Ev.newRow h [vs t] 1 []) 1 16 v 1 [vs t] = some (v',h') ∧ Bld ok 1 TxR h' v' (xs ++ [t]) ∧ KeptC h h' [] ∧ (∀ b,b < h.size → ¬ ok b → hget h' b = hget h b) :=
 bld_put1 s (bytes := 16) [vs t] (x := t) rfl (by omega) hok (fun _ _ _ _ _ _ q => q) (fun _ _ => rfl)
def E96 (p : Bool) (F : Nat) : K := evC (F + 5) (cxOf (cf p (F + 5)) (cfX XD) [.tmp 2]) (.seq (.seq (.region r96_24 [5,81]) (.cond (.tmp 81) (.region r96_25 [5]) .skip)) (.seq (.region r96_26 [2]) .ret)) (endK (cfX XD) [.tmp 2]) noK (endK (cfX XD) [.tmp 2])
theorem E96_eq {s : Env} {g : H} {ds : Ds} : E96 p F s g ds = evC (F + 5) (cxOf (cf p (F + 5)) (cfX XD) [.tmp 2]) (.seq (.seq (.region r96_24 [5,81]) (.cond (.tmp 81) (.region r96_25 [5]) .skip)) (.seq (.region r96_26 [2]) .ret)) (endK (cfX XD) [.tmp 2]) noK (endK (cfX XD) [.tmp 2]) s g ds := nr rfl
def L96 (p : Bool) (F : Nat) (fuel : Nat) : K := loopK (F + 5) (cxOf (cf p (F + 5)) (cfX XD) [.tmp 2]) [1,4,5,19] l96_23 (putK 0 (E96 p F) noK) (endK (cfX XD) [.tmp 2]) fuel
theorem L96_succ {n : Nat} {s : Env} {g : H} {ds : Ds} : L96 p F (n + 1) s g ds = evC (F + 5) (cxOf (cf p (F + 5)) (cfX XD) [.tmp 2]) l96_23 (keepK [1,4,5,19] (L96 p F n)) (putK 0 (E96 p F) noK) (endK (cfX XD) [.tmp 2]) s g ds := loopK_succ
theorem opC_zero (o : Rn.Op) : (!o.kind == 0 || (!ofB o.place == { data := #[] } || (!ofB o.data == { data := #[] } || (!o.version == 0 || !o.flags == 0)))) = !decide (o = {}) := by
 obtain ⟨k,pl,d,v,f⟩ := o
 have e1 : (ofB pl == { data := #[] }) = decide (pl = []) := ofB_beq pl []
 have e2 : (ofB d == { data := #[] }) = decide (d = []) := ofB_beq d []
 simp only [e1,e2,Rn.Op.mk.injEq]
 by_cases h1 : k = 0 <;> by_cases h2 : pl = [] <;> by_cases h3 : d = [] <;> by_cases h4 : v = 0 <;> by_cases h5 : f = 0 <;> simp [h1,h2,h3,h4,h5]
theorem opTab_len' {q : Bs × List OA} (h : q ∈ opTab) : q.2.length ≤ 3 ∧ q.1.length ≤ 5 := Rn.opTab_len q h
theorem l_brief : str98_114_105_101_102 = ofB w_brief := rfl
theorem l_counted : str99_111_117_110_116_101_100 = ofB w_counted := rfl
theorem l_blank : str32 = ofB [32] := rfl
theorem and_f : uand .i64 0 1 = 0 ∧ uand .i64 0 2 = 0 ∧ uand .i64 1 1 = 1 ∧ uand .i64 1 2 = 0 ∧ uand .i64 2 1 = 0 ∧ uand .i64 2 2 = 2 ∧ uand .i64 3 1 = 1 ∧ uand .i64 3 2 = 2 := by decide +kernel
theorem opRes_bad {o lf : Rn.Op} {acc : List Bs} {a : OA} {l : List OA} (h : opArgT o a = none) : opRes o lf acc (a :: l) = none := by rw [Rn.opRes_cons,h]
theorem opRes_ok {o lf : Rn.Op} {acc x : List Bs} {a : OA} {l : List OA} (h : opArgT o a = some x) : opRes o lf acc (a :: l) = opRes o (clrO lf a) (acc ++ x) l := by rw [Rn.opRes_cons,h]
theorem bld_words {lo : Nat} {g g' : H} {v : Value} {xs : List Bs} {b : Nat} {x : Blk} (s : Bld (fun b => lo < b) 1 TxR g v xs) (hb : b ≤ lo) : Bld (fun b => lo < b) 1 TxR (g.setIfInBounds b x) v xs := by
 have k : Kept g (g.setIfInBounds b x) [b] := ⟨by simp,fun c hc hn => by rw [set_other (fun e => hn (by simp [e]))]⟩
 exact s.kept k (by simp;omega) (fun _ _ _ q => q)
set_option maxHeartbeats 1000000 in
theorem opT_loop (o : Rn.Op) (l : List OA) (hl : l.length ≤ 3) (B1 B4 B19 : Nat) (hF : 300 < F) (h0 : H) (hb1 : h0.size ≤ B1) (hb4 : B1 < B4) (hb19 : B4 < B19) (text : Bs) (ht : text = l.map oaB) (res : Option Bs) :
  ∀ (m : Nat) (q : Nat) (lf : Rn.Op) (acc : List Bs) (lv : Value) (g : H),m = l.length - q → q ≤ l.length → Kept h0 g [] → hget g B1 = some (.cells (opC o) 0 true []) → hget g B4 = some (.cells (opC lf) 0 true []) →
   hget g B19 = some (.iter (ofB text) q) → Bld (fun b => B4 < b ∧ b ≠ B19) 1 TxR g lv acc → acc ≠ [] → acc.length ≤ 2 * q + 1 → (∀ w ∈ acc,w.length ≤ 1026) → res = opRes o lf acc (l.drop q) →
   ∀ fuel,m < fuel → Ans (L96 p F fuel [(1,.pointer (some ⟨B1,0,none⟩)),(4,.pointer (some ⟨B4,0,none⟩)),(5,lv),(19,.pointer (some ⟨B19,0,none⟩))] g []) fun w h' => Kept h0 h' [] ∧ w = offT res := by
 intro m
 induction m with
 | zero =>
  intro q lf acc lv g hm hq hk g1 g4 g19 hB hne hal hwl hres fuel hfu
  obtain ⟨fuel,rfl⟩ : ∃ f',fuel = f' + 1 := ⟨fuel - 1,by omega⟩
  have e : q = l.length := by omega
  subst e
  have n1 := nxS_end g19 (by rw [ht];simp)
  rw [List.drop_eq_nil_iff.2 (Nat.le_refl _),Rn.opRes_nil] at hres
  have hs4 := lt_of_get g4
  have e1 := fun g => fail_eq (p := p) (F := F + 4) (h := g)
  have hz := opC_zero lf
  have hjl := Rn.joinW_len hwl
  have hj3 : acc.length * (1026 + 1) ≤ 7 * 1027 := Nat.mul_le_mul_right _ (by omega)
  have e2 := join_call (p := p) (F := F + 4) (sep := [32]) hB.sl hne (by omega) (by rw [Rn.joinW_lib];omega)
  rw [Rn.joinW_lib] at e2
  rw [L96_succ]
  simp (disch := first|omega|(simp only [zS];first|done|omega)) [l96_23,r96_6,n1,List.getElem?_cons_zero]
  rw [E96_eq]
  by_cases hzl : lf = {}
  ·rw [decide_eq_true hzl] at hz
   simp (disch := first|omega|(simp only [zS];first|done|omega)) [r96_24,r96_26,g4,opC,l_blank,e2,hz]
   refine Ans.of ⟨hk,?_⟩
   rw [hres,if_pos hzl];rfl
  ·rw [decide_eq_false hzl] at hz
   simp (disch := first|omega|(simp only [zS];first|done|omega)) [r96_24,r96_25,g4,opC,e1,hz]
   refine Ans.of ⟨hk,?_⟩
   rw [hres,if_neg hzl];rfl
 | succ m ih =>
  intro q lf acc lv g hm hq hk g1 g4 g19 hB hne hal hwl hres fuel hfu
  obtain ⟨fuel,rfl⟩ : ∃ f',fuel = f' + 1 := ⟨fuel - 1,by omega⟩
  obtain ⟨a,ha⟩ : ∃ a,l[q]? = some a := ⟨_,List.getElem?_eq_getElem (by omega)⟩
  have hq' := (List.getElem?_eq_some_iff.1 ha).1
  have hta : text[q]? = some (oaB a) := by rw [ht];simp [ha]
  have n1 := nxS_at g19 hta (oaB_lt a)
  rw [drop_at ha] at hres
  have hs1 := lt_of_get g1
  have hs4 := lt_of_get g4
  have hs19 := lt_of_get g19
  have k0 : Kept h0 (g.setIfInBounds B19 (.iter (ofB text) (q + 1))) [] := kept_set hk (by omega)
  have g10 : hget (g.setIfInBounds B19 (.iter (ofB text) (q + 1))) B1 = some (.cells (opC o) 0 true []) := by rw [set_other (by omega)];exact g1
  have g40 : hget (g.setIfInBounds B19 (.iter (ofB text) (q + 1))) B4 = some (.cells (opC lf) 0 true []) := by rw [set_other (by omega)];exact g4
  have g190 : hget (g.setIfInBounds B19 (.iter (ofB text) (q + 1))) B19 = some (.iter (ofB text) (q + 1)) := by simp (disch := first|omega|(simp only [zS];first|done|omega)) []
  have hB0 : Bld (fun b => B4 < b ∧ b ≠ B19) 1 TxR (g.setIfInBounds B19 (.iter (ofB text) (q + 1))) lv acc := by
   have k : Kept g (g.setIfInBounds B19 (.iter (ofB text) (q + 1))) [B19] := ⟨by simp,fun c hc hn => by rw [set_other (fun e => hn (by simp [e]))]⟩
   exact hB.kept k (by simp) (fun _ _ _ q => q)
  rw [L96_succ]
  simp (disch := first|omega|(simp only [zS];first|done|omega)) [l96_23,r96_6,n1,List.getElem?_cons_zero,List.getElem?_cons_succ,r96_7,r96_8]
  clear n1
  have hs' : (g.setIfInBounds B19 (.iter (ofB text) (q + 1))).size = g.size := by simp
  generalize g.setIfInBounds B19 (.iter (ofB text) (q + 1)) = g' at *
  have e1 := fun g => fail_eq (p := p) (F := F + 4) (h := g)
  have fin : ∀ (t : List Bs) (cs : List Value) (lv' : Value) (g'' : H),opArgT o a = some t → (t.length ≤ 2 ∧ ∀ w ∈ t,w.length ≤ 1026) → cs = opC (clrO lf a) → KeptC g' g'' [] → (∀ b,b < g'.size → ¬ (B4 < b ∧ b ≠ B19) → hget g'' b = hget g' b) → Bld (fun b => B4 < b ∧ b ≠ B19) 1 TxR g'' lv' (acc ++ t) →
    Ans (L96 p F fuel [(1,.pointer (some ⟨B1,0,none⟩)),(4,.pointer (some ⟨B4,0,none⟩)),(5,lv'),(19,.pointer (some ⟨B19,0,none⟩))] (g''.setIfInBounds B4 (.cells cs 0 true [])) []) fun w h' => Kept h0 h' [] ∧ w = offT res := by
   intro t cs lv' g'' h1 h2 h3 h4 h5 h6
   have hsz := h4.1
   have hk' : Kept h0 g'' [] := ⟨Nat.le_trans k0.1 hsz,fun c hc hn => by rw [h5 c (by omega) (by omega)];exact k0.2 c hc hn⟩
   refine ih (q + 1) (clrO lf a) (acc ++ t) lv' _ (by omega) (by omega) (kept_set hk' (by omega)) ?_ ?_ ?_ ?_ (by simp [hne]) (by have := h2.1;simp;omega) ?_ ?_ fuel (by omega)
   ·rw [set_other (by omega),h5 B1 (by omega) (by omega)];exact g10
   ·rw [h3];simp (disch := first|omega|(simp only [zS];first|done|omega)) []
   ·rw [set_other (by omega),h5 B19 (by omega) (by simp)];exact g190
   ·have k : Kept g'' (g''.setIfInBounds B4 (.cells cs 0 true [])) [B4] := ⟨by simp,fun c hc hn => by rw [set_other (fun e => hn (by simp [e]))]⟩
    exact h6.kept k (by simp) (fun _ _ _ q => q)
   ·intro w hw
    rcases List.mem_append.1 hw with q | q
    ·exact hwl w q
    ·exact h2.2 w q
   ·rw [hres,opRes_ok h1]
  cases a with
  | p =>
   have e2 := held_eq (p := p) (F := F + 3) (h := g') o.place
   by_cases hp : o.place.length ≤ 256
   ·have e3 := placed_eq (p := p) (F := F + 1) (h := g') o.place (by omega) (by omega)
    have hpl := Rn.placed_len o.place
    simp only [heldT,if_pos hp,offT] at e2
    obtain ⟨v',h',a1,a2,a3,a4⟩ := word_put hB0 (placed o.place) (by omega) (by omega)
    have a5 := (a4 B4 (by omega) (by omega)).trans g40
    have a6 := lt_of_get a5
    simp only [opC] at a5
    simp (disch := first|omega|(simp only [zS];first|done|omega)) [r96_9,r96_10,oaB,g10,opC,e2,e3,srcOf,isText,a1,a5,List.getElem?_cons_zero,List.getElem?_cons_succ]
    exact fin [placed o.place] _ v' h' (by simp [opArgT,hp]) ⟨by simp,by simp;omega⟩ rfl a3 a4 a2
   ·simp only [heldT,if_neg hp,offT] at e2
    simp (disch := first|omega|(simp only [zS];first|done|omega)) [r96_9,r96_10,oaB,g10,opC,e2]
    refine Ans.of ⟨k0,?_⟩
    rw [hres,opRes_bad (by simp [opArgT,hp])];rfl
  | d =>
   have e2 := held_eq (p := p) (F := F + 3) (h := g') o.data
   by_cases hp : o.data.length ≤ 256
   ·have e3 := quote_call (p := p) (F := F + 4) (h := g') o.data (by omega)
    have hpl := Rn.quote_len o.data
    simp only [heldT,if_pos hp,offT] at e2
    obtain ⟨v',h',a1,a2,a3,a4⟩ := word_put hB0 (quote o.data) (by omega) (by omega)
    have a5 := (a4 B4 (by omega) (by omega)).trans g40
    have a6 := lt_of_get a5
    simp only [opC] at a5
    simp (disch := first|omega|(simp only [zS];first|done|omega)) [r96_9,r96_11,r96_12,oaB,g10,opC,e2,e3,srcOf,isText,a1,a5,List.getElem?_cons_zero,List.getElem?_cons_succ]
    exact fin [quote o.data] _ v' h' (by simp [opArgT,hp]) ⟨by simp,by simp;omega⟩ rfl a3 a4 a2
   ·simp only [heldT,if_neg hp,offT] at e2
    simp (disch := first|omega|(simp only [zS];first|done|omega)) [r96_9,r96_11,r96_12,oaB,g10,opC,e2]
    refine Ans.of ⟨k0,?_⟩
    rw [hres,opRes_bad (by simp [opArgT,hp])];rfl
  | v =>
   have e2 := number_eq (p := p) (F := F + 3) (h := g') o.version
   cases hp : numT o.version with
   | some t =>
    have hpl := Rn.numT_len hp
    simp only [hp,offT] at e2
    obtain ⟨v',h',a1,a2,a3,a4⟩ := word_put hB0 t (by omega) (by omega)
    have a5 := (a4 B4 (by omega) (by omega)).trans g40
    have a6 := lt_of_get a5
    simp only [opC] at a5
    simp (disch := first|omega|(simp only [zS];first|done|omega)) [r96_9,r96_11,r96_13,r96_14,oaB,g10,opC,e2,srcOf,isText,a1,a5,List.getElem?_cons_zero,List.getElem?_cons_succ]
    exact fin [t] _ v' h' (by simp [opArgT,hp]) ⟨by simp,by simp;omega⟩ rfl a3 a4 a2
   | none =>
    simp only [hp,offT] at e2
    simp (disch := first|omega|(simp only [zS];first|done|omega)) [r96_9,r96_11,r96_13,r96_14,oaB,g10,opC,e2]
    refine Ans.of ⟨k0,?_⟩
    rw [hres,opRes_bad (by simp [opArgT,hp])];rfl
  | f =>
   by_cases hp : o.flags = 0 ∨ o.flags = 1 ∨ o.flags = 2 ∨ o.flags = 3
   ·have hb1' : ¬ o.flags < 0 := by omega
    have hb2' : ¬ (3 : Int) < o.flags := by omega
    obtain ⟨u01,u02,u11,u12,u21,u22,u31,u32⟩ := and_f
    obtain ⟨v',h',a1,a2,a3,a4⟩ := word_put hB0 w_brief (by omega) (by omega)
    have a5 := (a4 B4 (by omega) (by omega)).trans g40
    have a6 := lt_of_get a5
    have a7 := (a4 B1 (by omega) (by omega)).trans g10
    have hz3 := a3.1
    obtain ⟨v2,h2,c1,c2,c3,c4⟩ := word_put hB0 w_counted (by omega) (by omega)
    have c5 := (c4 B4 (by omega) (by omega)).trans g40
    have c6 := lt_of_get c5
    obtain ⟨v3,h3,d1,d2,d3,d4⟩ := word_put a2 w_counted (by omega) (by simp;omega)
    have d5 := ((d4 B4 (by omega) (by omega)).trans (a4 B4 (by omega) (by omega))).trans g40
    have d6 := lt_of_get d5
    rcases hp with hf | hf | hf | hf
    ·simp only [opC,hf] at g10 a7
     simp (disch := first|omega|(simp only [zS];first|done|omega)) [r96_9,r96_11,r96_13,r96_15,r96_16,oaB,g10,opC,hb1',hb2',r96_18,r96_20,r96_22,u01,u02,g40]
     exact fin [] _ lv g' (by simp [opArgT,hf]) ⟨by simp,by simp⟩ rfl (KeptC.refl _ _) (fun _ _ _ => rfl) (by simpa using hB0)
    ·simp only [opC,hf] at g10 a7
     simp only [opC] at a5
     simp (disch := first|omega|(simp only [zS];first|done|omega)) [r96_9,r96_11,r96_13,r96_15,r96_16,oaB,g10,opC,hb1',hb2',r96_18,r96_19,r96_20,r96_22,u11,u12,l_brief,srcOf,isText,a1,a5,a7]
     exact fin [w_brief] _ v' h' (by simp [opArgT,hf]) ⟨by simp,by simp [w_brief]⟩ rfl a3 a4 a2
    ·simp only [opC,hf] at g10 a7
     simp only [opC] at c5
     simp (disch := first|omega|(simp only [zS];first|done|omega)) [r96_9,r96_11,r96_13,r96_15,r96_16,oaB,g10,opC,hb1',hb2',r96_18,r96_20,r96_21,r96_22,u21,u22,l_counted,srcOf,isText,c1,c5]
     exact fin [w_counted] _ v2 h2 (by simp [opArgT,hf]) ⟨by simp,by simp [w_counted]⟩ rfl c3 c4 c2
    ·simp only [opC,hf] at g10 a7
     simp only [opC] at d5
     simp (disch := first|omega|(simp only [zS];first|done|omega)) [r96_9,r96_11,r96_13,r96_15,r96_16,oaB,g10,opC,hb1',hb2',r96_18,r96_19,r96_20,r96_21,r96_22,u31,u32,l_brief,l_counted,srcOf,isText,a1,a7,d1,d5]
     exact fin [w_brief,w_counted] _ v3 h3 (by simp [opArgT,hf]) ⟨by simp,by simp [w_brief,w_counted]⟩ rfl (a3.trans d3) (fun b hb hn => (d4 b (by omega) hn).trans (a4 b hb hn)) (by simpa using d2)
   ·by_cases hb1' : o.flags < 0
    ·simp (disch := first|omega|(simp only [zS];first|done|omega)) [r96_9,r96_11,r96_13,r96_15,r96_16,r96_17,oaB,g10,opC,e1,hb1']
     refine Ans.of ⟨k0,?_⟩
     rw [hres,opRes_bad (by simp only [opArgT];rw [if_neg (by omega),if_neg (by omega),if_neg (by omega),if_neg (by omega)])];rfl
    ·have hb2' : (3 : Int) < o.flags := by omega
     simp (disch := first|omega|(simp only [zS];first|done|omega)) [r96_9,r96_11,r96_13,r96_15,r96_16,r96_17,oaB,g10,opC,e1,hb1',hb2']
     refine Ans.of ⟨k0,?_⟩
     rw [hres,opRes_bad (by simp only [opArgT];rw [if_neg (by omega),if_neg (by omega),if_neg (by omega),if_neg (by omega)])];rfl
set_option maxHeartbeats 1000000 in
theorem opT_spec (o : Rn.Op) (hF : 300 < F) : Ans (cf p (F + 6) 96 [.agg ⟨opC o⟩] h) fun v h' => Kept h h' [] ∧ v = offT (opT o) := by
 rw [cf_step (a := a96) rfl rfl (by simp [a96])]
 have k1 := rowKept h (opC o) 0 []
 have k2 := k1.trans (rowKept (Ev.newRow h (opC o) 0 []) [vi 0,vs [],vs []] 0 [])
 have b1 : hget (Ev.newRow (Ev.newRow h (opC o) 0 []) [vi 0,vs [],vs []] 0 []) h.size = some (.cells (opC o) 0 true []) := by simp
 have b3 : hget (Ev.newRow (Ev.newRow h (opC o) 0 []) [vi 0,vs [],vs []] 0 []) (h.size + 1) = some (.cells [vi 0,vs [],vs []] 0 true []) := by simp
 have z2 : (Ev.newRow (Ev.newRow h (opC o) 0 []) [vi 0,vs [],vs []] 0 []).size = h.size + 2 := by simp
 have eqz : Ev.newRow (Ev.newRow h [vi o.kind,vs o.place,vs o.data,vi o.version,vi o.flags] 0 []) [vi 0,vs [],vs []] 0 [] = Ev.newRow (Ev.newRow h (opC o) 0 []) [vi 0,vs [],vs []] 0 [] := rfl
 simp (disch := first|omega|(simp only [zS];first|done|omega)) [a96,r96_0,opC,lit_nil,d96_1]
 rw [eqz]
 generalize Ev.newRow (Ev.newRow h (opC o) 0 []) [vi 0,vs [],vs []] 0 [] = g2 at *
 refine Ans.nextCD (opShapes_spec (p := p) (F := F + 4) (h := g2)) ?_
 rintro w1 g3 ⟨rfl,rfl⟩
 have k3 := rowKept g2 (opSh.map shC).flatten 3 []
 have hS := shapes_row g2 opSh 7 rfl
 have b13 := (k3.get (b := h.size) (by omega) (by simp)).trans b1
 have b33 := (k3.get (b := h.size + 1) (by omega) (by simp)).trans b3
 have k03 := k2.trans k3
 have z3 : (Ev.newRow g2 (opSh.map shC).flatten 3 []).size = h.size + 3 := by simp [z2]
 generalize Ev.newRow g2 (opSh.map shC).flatten 3 [] = g3 at *
 have e2 := shapeOf_spec (p := p) (F := F + 3) o.kind hS (by show (7 : Nat) < _;omega) (by show (7 : Nat) < _;omega)
 simp (disch := first|omega|(simp only [zS];first|done|omega)) [b13,opC]
 refine Ans.nextCD e2 ?_
 rintro w2 g4 ⟨k4,rfl⟩
 have b14 := (k4.get (b := h.size) (by omega) (by simp)).trans b13
 have b34 := (k4.get (b := h.size + 1) (by omega) (by simp)).trans b33
 have k04 := k03.trans k4
 have z4 := k4.1
 rw [show opSh = shL oaB 1 opTab from rfl,kind_shL]
 rw [Rn.opT_eq]
 by_cases hk1 : 1 ≤ o.kind
 ·rw [if_pos hk1,if_pos (by omega)]
  have ek : (o.kind - ((1 : Nat) : Int)).toNat = (o.kind - 1).toNat := by omega
  rw [ek]
  cases hq : opTab[(o.kind - 1).toNat]? with
  | none =>
   simp (disch := first|omega|(simp only [zS];first|done|omega)) [shV,opC,b1,b13,List.getElem?_cons_zero,List.getElem?_cons_succ,dk_go,dk_pan,blanks,chks_nil,chks_cons,chkA_cons,chkA_nil,chk1_yes,hAt_eq,hOf_some,hOf_none,chkV_some,sameV,sameCell]
   exact Ans.of ⟨k04,rfl⟩
  | some q =>
   obtain ⟨w,args⟩ := q
   simp (disch := first|omega|(simp only [zS];first|done|omega)) [shV,shC,b1,b13,b14,b34,opC,List.getElem?_cons_zero,List.getElem?_cons_succ,dk_go,dk_pan,blanks,chks_nil,chks_cons,chkA_cons,chkA_nil,chk1_yes,hAt_eq,hOf_some,hOf_none,chkV_some,sameV,sameCell]
   have z34 := lt_of_get b34
   have k5 : Kept h (g4.setIfInBounds (h.size + 1) (.cells [vi o.kind,vs w,vs (args.map oaB)] 0 true [])) [] := kept_set k04 (by omega)
   have b15 : hget (g4.setIfInBounds (h.size + 1) (.cells [vi o.kind,vs w,vs (args.map oaB)] 0 true [])) h.size = some (.cells (opC o) 0 true []) := by rw [set_other (by omega)];exact b14
   have b35 : hget (g4.setIfInBounds (h.size + 1) (.cells [vi o.kind,vs w,vs (args.map oaB)] 0 true [])) (h.size + 1) = some (.cells [vi o.kind,vs w,vs (args.map oaB)] 0 true []) := by simp (disch := first|omega|(simp only [zS];first|done|omega)) []
   have z5 : (g4.setIfInBounds (h.size + 1) (.cells [vi o.kind,vs w,vs (args.map oaB)] 0 true [])).size = g4.size := by simp
   generalize g4.setIfInBounds (h.size + 1) (.cells [vi o.kind,vs w,vs (args.map oaB)] 0 true []) = g5 at *
   have hm := opTab_len' (List.mem_of_getElem? hq)
   have kA := rowKept g5 (opC { o with kind := 0 }) 0 []
   have kB := rowKept (Ev.newRow g5 (opC { o with kind := 0 }) 0 []) [vs w] 1 []
   have kC : Kept (Ev.newRow (Ev.newRow g5 (opC { o with kind := 0 }) 0 []) [vs w] 1 []) (Array.push (Ev.newRow (Ev.newRow g5 (opC { o with kind := 0 }) 0 []) [vs w] 1 []) (.iter (ofB (args.map oaB)) 0)) [] := ⟨by simp,fun c hc _ => push_old hc⟩
   have kD := (kA.trans kB).trans kC
   have main := opT_loop (p := p) (F := F) o args hm.1 h.size g5.size (g5.size + 2) hF h (Nat.le_refl _) (by omega) (by omega) (args.map oaB) rfl (Rn.opR o (some (w,args))) (args.length - 0) 0 { o with kind := 0 } [w]
    (.slice (some ⟨g5.size + 1,0,none⟩) 1 1) (Array.push (Ev.newRow (Ev.newRow g5 (opC { o with kind := 0 }) 0 []) [vs w] 1 []) (.iter (ofB (args.map oaB)) 0)) rfl (by omega) (k5.trans kD) ((kD.get (by omega) (by simp)).trans b15) (by simp (disch := first|omega|(simp only [zS];first|done|omega)) []) (by simp (disch := first|omega|(simp only [zS];first|done|omega)) [])
    (.inr ⟨g5.size + 1,[vs w],[],rfl,⟨by omega,by simp⟩,by simp (disch := first|omega|(simp only [zS];first|done|omega)) [],rfl,fun i x hx => by
      cases i with
      | zero => simp at hx;subst hx;rfl
      | succ i => simp at hx⟩) (by simp) (by simp) (by have := hm.2;simp at this ⊢;omega) (by simp [Rn.opR]) (F + 5) (by have := hm.1;simp at this;omega)
   simp (disch := first|omega|(simp only [zS];first|done|omega)) [r96_2,r96_3,r96_4,r96_5,b15,b35,opC]
   exact main
 ·rw [if_neg hk1,if_neg (by omega)]
  simp (disch := first|omega|(simp only [zS];first|done|omega)) [shV,opC,b1,b13,List.getElem?_cons_zero,List.getElem?_cons_succ,dk_go,dk_pan,blanks,chks_nil,chks_cons,chkA_cons,chkA_nil,chk1_yes,hAt_eq,hOf_some,hOf_none,chkV_some,sameV,sameCell]
  exact Ans.of ⟨k04,rfl⟩
end Go.Proofs.YtnoghchcboiojaaGreatDoor
end
section
set_option maxRecDepth 100000
namespace Go.Proofs.YtnoghchcboiojaaGreatDoor
open Go.Ev
open Go.Rn (Bs opT opsT joinS)
variable {p : Bool} {F : Nat} {h : H}
def opsRes (acc : List Bs) (l : List Rn.Op) : Option Bs := match l.mapM opT with
 | none => none
 | some ws => some (joinS (acc ++ ws))
theorem opsRes_nil (acc : List Bs) : opsRes acc [] = some (joinS acc) := by simp [opsRes]
theorem opsRes_cons (acc : List Bs) (o : Rn.Op) (l : List Rn.Op) : opsRes acc (o :: l) = match opT o with
  | none => none
  | some t => opsRes (acc ++ [t]) l := by
 unfold opsRes
 simp only [List.mapM_cons]
 cases opT o with
 | none => rfl
 | some t =>
  simp only [Option.bind_eq_bind,Option.bind_some]
  cases l.mapM opT with
  | none => rfl
  | some y => simp
theorem opsT_res (l : List Rn.Op) (h1 : 1 ≤ l.length) (h4 : l.length ≤ 4) : opsT l = opsRes [] l := by
 unfold opsT opsRes
 rw [if_pos ⟨h1,h4⟩]
 cases l.mapM opT with
 | none => rfl
 | some y => simp
theorem l_semi : str32_59_32 = ofB [32,59,32] := rfl
set_option maxHeartbeats 1000000 in
theorem opsT_spec {ok : Nat → Prop} {v : Value} {l : List Rn.Op} (s : SlR ok 5 OpR h v l) (hF : 300 < F) : Ans (cf p (F + 7) 64 [v] h) fun w h' => Kept h h' [] ∧ w = offT (opsT l) := by
 rw [cf_step (a := a64) rfl rfl (by simp [a64])]
 have hlen := s.len
 have e1 := fun g => fail_eq (p := p) (F := F + 5) (h := g)
 by_cases h0 : l.length = 0
 ·have hz : ((l.length : Int) == 0) = true := by simp [h0]
  have hr : opsT l = none := by unfold opsT;rw [if_neg (by omega)]
  simp (disch := first|omega|(simp only [zS];first|done|omega)) [a64,r64_0,r64_1,hlen,hz,r64_2,e1]
  exact Ans.of ⟨Kept.refl _ _,by rw [hr];rfl⟩
 ·have hz : ((l.length : Int) == 0) = false := by simp;intro e;exact h0 (by simp [e])
  by_cases h4 : (4 : Int) < l.length
  ·have hr : opsT l = none := by unfold opsT;rw [if_neg (by omega)]
   simp (disch := first|omega|(simp only [zS];first|done|omega)) [a64,r64_0,r64_1,hlen,hz,h4,r64_2,e1]
   exact Ans.of ⟨Kept.refl _ _,by rw [hr];rfl⟩
  ·have hr := opsT_res l (by omega) (by omega)
   rw [hr]
   have hb4 : ¬ (4 : Int) < l.length := h4
   simp (disch := first|omega|(simp only [zS];first|done|omega)) [a64,r64_0,r64_1,hlen,hz,hb4,r64_3,r64_4]
   refine loop_rule (fun m s' g => ∃ (i : Nat) (acc : List Bs) (lv : Value),i ≤ l.length ∧ m = l.length - i ∧ Kept h g [] ∧ s' = [(3,lv),(15,v),(16,vi l.length),(17,vi i)] ∧ Bld (fun b => h.size ≤ b) 1 TxR g lv acc ∧ acc.length = i ∧ (∀ w ∈ acc,w.length ≤ 8000) ∧ opsRes [] l = opsRes acc (l.drop i))
    ?_ (F + 6) (l.length - 0) _ _ (by omega) ⟨0,[],.slice none 0 0,by omega,rfl,Kept.refl _ _,rfl,Bld.nil _ _ _ _,rfl,by simp,by simp⟩
   rintro m s' g again ⟨i,acc,lv,hi,rfl,hk,rfl,hB,hal,hwl,hq⟩ hag
   by_cases hlt : i < l.length
   ·obtain ⟨o,ho⟩ : ∃ o,l[i]? = some o := ⟨_,List.getElem?_eq_getElem hlt⟩
    have s2 := s.kc hk.c (by simp) (fun _ _ _ q => q)
    obtain ⟨b,off',c,cs,es,lv',an,rfl,hok,hg,hle,hr2⟩ := s2.at' ho
    have t5 : (cs.drop (off' + i * 5)).take 5 = opC o := hr2
    have hlt' : (i : Int) < l.length := by omega
    rw [drop_at ho,opsRes_cons] at hq
    have k2 := rowKept g (opC o) 0 []
    have hb3 : hget (Ev.newRow g (opC o) 0 []) g.size = some (.cells (opC o) 0 true []) := by simp
    have e2 := opT_spec (p := p) (F := F) (h := Ev.newRow g (opC o) 0 []) o hF
    have hB2 := hB.kept k2 (by simp) (fun _ _ _ q => q)
    have hk2 := hk.trans k2
    simp only [opC] at t5 hb3 e2
    simp (disch := first|omega|(simp only [zS];first|done|omega)) [l64_9,r64_5,r64_6,r64_7,hlt',hg,hle,t5,hb3]
    refine Ans.nextC e2 ?_
    rintro w g3 ⟨k3,rfl⟩
    have hB3 := hB2.kept k3 (by simp) (fun _ _ _ q => q)
    have hk3 := hk2.trans k3
    cases ht : opT o with
    | none =>
     rw [ht] at hq
     simp (disch := first|omega|(simp only [zS];first|done|omega)) [offT]
     exact Ans.of ⟨hk3,by rw [hq]⟩
    | some t =>
     rw [ht] at hq
     have htl := Rn.opT_len ht
     obtain ⟨v',h',a1,a2,a3,a4⟩ := word_put hB3 t (by have := hk3.1;omega) (by omega)
     simp (disch := first|omega|(simp only [zS];first|done|omega)) [offT,srcOf,isText,a1,r64_8,wrap_id]
     refine hag _ _ _ (by omega) ⟨i + 1,acc ++ [t],v',by omega,rfl,?_,by simp,a2,by simp [hal],?_,hq⟩
     ·exact kept_of hk3 a3.1 fun b hb => a4 b (by have := hk3.1;omega) (by omega)
     ·intro w hw
      rcases List.mem_append.1 hw with q | q
      ·exact hwl w q
      ·simp at q;subst q;exact htl
   ·have : i = l.length := by omega
    subst this
    rw [List.drop_eq_nil_iff.2 (Nat.le_refl _),opsRes_nil] at hq
    have hjl := Rn.joinS_len hwl
    have hj3 : acc.length * (8000 + 3) ≤ 4 * 8003 := Nat.mul_le_mul_right _ (by omega)
    have hne : acc ≠ [] := fun e => h0 (by rw [← hal,e];rfl)
    have e3 := join_call (p := p) (F := F + 5) (sep := [32,59,32]) hB.sl hne (by omega) (by rw [Rn.joinS_lib];omega)
    rw [Rn.joinS_lib] at e3
    simp (disch := first|omega|(simp only [zS];first|done|omega)) [l64_9,r64_5,r64_10,l_semi,e3]
    exact Ans.of ⟨hk,by rw [hq];rfl⟩
def OvR (h : H) (ov : Value) (l : List Rn.Op) : Prop := (∃ ok : Nat → Prop,SlR ok 5 OpR h ov l) ∨ (l = [] ∧ ∃ b o c,ov = .slice (some ⟨b,o,none⟩) 0 c)
theorem OvR.len {ov : Value} {l : List Rn.Op} (s : OvR h ov l) : lenV ov = some (.int .i64 l.length) := by
 rcases s with ⟨_,s⟩ | ⟨rfl,b,o,c,rfl⟩
 ·exact s.len
 ·rfl
theorem OvR.one {ov : Value} {l : List Rn.Op} (s : OvR h ov l) : oneCell ov = true := by
 rcases s with ⟨_,s⟩ | ⟨rfl,b,o,c,rfl⟩
 ·exact s.one
 ·rfl
theorem OvR.kept {h' : H} {ov : Value} {l : List Rn.Op} (s : OvR h ov l) (k : Kept h h' []) : OvR h' ov l := by
 rcases s with ⟨ok,s⟩ | ⟨rfl,b,o,c,rfl⟩
 ·exact .inl ⟨ok,s.kc k.c (by simp) (fun _ _ _ q => q)⟩
 ·exact .inr ⟨rfl,b,o,c,rfl⟩
theorem opsT_spec' {v : Value} {l : List Rn.Op} (s : OvR h v l) (hF : 300 < F) : Ans (cf p (F + 7) 64 [v] h) fun w h' => Kept h h' [] ∧ w = offT (opsT l) := by
 rcases s with ⟨ok,s⟩ | ⟨rfl,b,o,c,rfl⟩
 ·exact opsT_spec s hF
 ·rw [cf_step (a := a64) rfl rfl (by simp [a64])]
  have hlen : lenV (.slice (some ⟨b,o,none⟩) 0 c) = some (.int .i64 0) := rfl
  have e1 := fun g => fail_eq (p := p) (F := F + 5) (h := g)
  simp (disch := first|omega|(simp only [zS];first|done|omega)) [a64,r64_0,r64_1,hlen,r64_2,e1]
  exact Ans.of ⟨Kept.refl _ _,rfl⟩
end Go.Proofs.YtnoghchcboiojaaGreatDoor
end
