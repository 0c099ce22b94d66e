/- QueueOrder: one step of the program's queue and of the statement's own list. -/
import Derived.Test.YtkkagpchcefidaaQe1
set_option linter.unusedSimpArgs false
set_option linter.unusedVariables false
namespace Go.Proofs.Ytkkagpchcefidaa
open Go.Ev

def swi : ACode := (.seq (.region r11_8 [0, 2, 7, 9, 10, 11, 54]) (.block 2 (.seq (.region r11_9 [0, 2, 7, 9, 10, 11, 54, 55]) (.cond (.tmp 55) (.seq (.region r11_10 [0, 2, 7, 9, 10, 11, 64]) (.cond (.tmp 64) (.region r11_11 [0, 2, 7, 9, 10]) (.seq (.regionD d11_12 [(1, [25])] [0, 2, 7, 9, 10, 96]) (.cond (.tmp 96) (.seq (.region r11_13 [6]) .ret) .skip)))) (.seq (.region r11_14 [0, 2, 7, 9, 10, 11, 54, 97]) (.cond (.tmp 97) (.seq (.region r11_15 [0, 2, 7, 9, 10, 11, 106]) (.cond (.tmp 106) (.region r11_16 [0, 2, 7, 9, 10]) (.seq (.regionD d11_17 [(1, [16])] [0, 2, 7, 9, 10, 125]) (.cond (.tmp 125) (.seq (.region r11_18 [6]) .ret) .skip)))) (.seq (.region r11_19 [0, 2, 7, 9, 10, 11, 126]) (.cond (.tmp 126) (.seq (.region r11_20 [0, 2, 7, 9, 10, 11, 12]) (.seq (.region r11_21 [0, 2, 7, 9, 10, 11, 12, 13]) (.seq (.block 3 (.loop [0, 2, 7, 9, 10, 11, 12, 13] l11_24)) (.seq (.seq (.region r11_25 [0, 2, 7, 9, 10, 13, 149]) (.cond (.tmp 149) (.seq (.region r11_26 [6]) .ret) .skip)) (.region r11_27 [0, 2, 7, 9, 10]))))) .skip))))))))
def rst : ACode := (.seq (.region r11_28 [0, 2, 7, 9, 10, 14]) (.seq (.seq (.region r11_29 [0, 2, 7, 9, 10, 14, 159]) (.cond (.tmp 159) (.seq (.region r11_30 [6]) .ret) .skip)) (.seq (.region r11_31 [0, 2, 7, 9, 10, 14, 15]) (.block 5 (.loop [0, 2, 7, 9, 10, 14, 15] l11_36)))))
theorem l11_split : l11_38 = (.seq (.seq (.region r11_6 [0, 2, 7, 9, 10, 46]) (.cond (.tmp 46) .skip (.exit 0))) (.seq (.block 1 (.seq (.region r11_7 [0, 2, 7, 9, 10, 11]) (.seq swi rst))) (.region r11_37 [0, 2, 7, 9, 10]))) := rfl

structure Ord (h : H) (N b r : Nat) (room : Int) (g : H) (u : Value) (q : Qm) (f : Nat) : Prop where
  sq : QAt (since N) g b 0 (some r) f q
  gq : q.Good
  rm : (q.room : Int) = room
  sh : ShortI q.items
  kg : Kept h g []
  yg : N ≤ g.size
  us : BldO (since N) 1 IntC g u (q.items.map (·.stamp))
  bh : h.size ≤ b
  rh : h.size ≤ r
  bl : b < N
  rl : r < N
  hN : h.size ≤ N

theorem putM_zero {q : Qm} {stamp : Int} {l : List Tgd} (h : (putM q stamp l).1 = 0) : (putM q stamp l).2 = ⟨q.room, q.items ++ [⟨stamp, q.last, false, l, []⟩], stamp⟩ := by
  unfold putM at h ⊢
  split
  · rename_i h0
    rw [if_pos h0] at h
    exact absurd h h0
  rename_i h0
  rw [if_neg h0] at h
  split
  · rename_i h1
    rw [if_pos h1] at h; simp at h
  rename_i h1
  rw [if_neg h1] at h
  split
  · rename_i h2
    rw [if_pos h2] at h; simp at h
  rfl

theorem putM_not {q : Qm} {stamp : Int} {l : List Tgd} (h : ¬ (putM q stamp l).1 = 0) : (putM q stamp l).2 = q ∧ (q.last < stamp → 0 < l.length → stamp ≤ 2147483647 → q.items.length < q.room → bare l = true) := by
  unfold putM at h ⊢
  split
  · rename_i h0
    refine ⟨rfl, fun a1 _ a3 _ => ?_⟩
    unfold fitsM at h0
    rw [if_neg (by omega), if_neg (by omega)] at h0
    exact absurd rfl h0
  rename_i h0
  rw [if_neg h0] at h
  split
  · rename_i h1
    refine ⟨rfl, fun _ a2 _ _ => ?_⟩
    rw [bare_iff]
    rcases h1 with rfl | h1
    · simp at a2
    · exact h1
  rename_i h1
  rw [if_neg h1] at h
  split
  · exact ⟨rfl, fun _ _ _ _ => by omega⟩
  rename_i h2
  rw [if_neg h2] at h
  simp at h

theorem collM_zero {q : Qm} {stamp : Int} {l : List Prt} (h : (collM q stamp l).1 = 0) : (collM q stamp l).2 = ⟨q.room, [⟨stamp, afterM q, true, [], l⟩], stamp⟩ := by
  unfold collM at h ⊢
  split
  · rename_i h0
    rw [if_pos h0] at h
    exact absurd h h0
  rename_i h0
  rw [if_neg h0] at h
  split
  · rename_i h1
    rw [if_pos h1] at h; simp at h
  rename_i h1
  rw [if_neg h1] at h
  split
  · rename_i h2
    rw [if_pos h2] at h; simp at h
  rfl

theorem collM_not {q : Qm} {stamp : Int} {l : List Prt} (hr : 0 < q.room) (h : ¬ (collM q stamp l).1 = 0) : (collM q stamp l).2 = q ∧ (q.last < stamp → 0 < l.length → stamp ≤ 2147483647 → False) := by
  unfold collM at h ⊢
  split
  · rename_i h0
    refine ⟨rfl, fun a1 _ a3 => ?_⟩
    unfold fitsM at h0
    rw [if_neg (by omega), if_neg (by omega)] at h0
    exact absurd rfl h0
  rename_i h0
  rw [if_neg h0] at h
  split
  · rename_i h1
    refine ⟨rfl, fun _ a2 _ => ?_⟩
    subst h1
    simp at a2
  rename_i h1
  rw [if_neg h1] at h
  split
  · exact ⟨rfl, fun _ _ _ => by omega⟩
  rename_i h2
  rw [if_neg h2] at h
  simp at h

set_option maxHeartbeats 2000000 in
theorem swi_spec {F : Nat} (hF : 17592186044440 ≤ F) {h : H} {N b r : Nat} {room : Int} {g : H} {u : Value} {q : Qm} {f : Nat} (o : Ord h N b r room g u q f)
    {v : Value} {i : Nat} {n : Nat} {x : Stp} {vt vp : Value} (hn : hget g n = some (.cells [.int .i64 x.kind, .int .i64 x.on, .int .i64 x.stamp, vt, vp] 0 true [])) (hnN : N ≤ n)
    (st : SlR (fun b => b < h.size) 5 (TgdC (fun b => b < h.size)) g vt x.chgs) (sp : SlR (fun b => b < h.size) 5 (PrtC (fun b => b < h.size)) g vp x.prts) (hs : x.Short)
    {kn kr : K} {ke : Nat → K} {Q : Value → H → Prop} (hq : ∀ h', Q (.bool true) h')
    (hk : ∀ g2 u2 q2 f2 (e : Env), Ord h N b r room g2 u2 q2 f2 → Ans (kn ((0, .int .i64 room) :: (2, v) :: (7, .pointer (some ⟨b, 0, none⟩)) :: (9, u2) :: (10, .int .i64 i) :: e) g2 []) Q) :
    Ans (evC F (cf F) swi kn ke kr [(0, .int .i64 room), (2, v), (7, .pointer (some ⟨b, 0, none⟩)), (9, u), (10, .int .i64 i), (11, .pointer (some ⟨n, 0, none⟩))] g []) Q := by
  have hns := lt_of_get hn
  have hbh := o.bh
  have hrh := o.rh
  have hbl := o.bl
  have hrl := o.rl
  have hhN := o.hN
  have hyg := o.yg
  have hul := o.us.sl.len
  rw [List.length_map] at hul
  have hgl := o.gq.len
  have hgr := o.gq.room
  have hnl : n ∉ b :: (some r).toList := by simp; omega
  by_cases h1 : x.kind = 1
  · simp (disch := first | omega | (simp only [newRow_size, Array.size_setIfInBounds, Array.size_push]; done) | (simp only [newRow_size, Array.size_setIfInBounds, Array.size_push]; omega)) [swi, r11_8, r11_9, r11_10, hn, h1, eqT, eqF, neT, neF, ltT, ltF, leT, leF, nltT, nltF, nleT, nleF, nneT, nneF, List.getElem?_cons_zero, List.getElem?_cons_succ]
    refine Ans.next (Put_spec (F := F) (by omega) o.sq o.gq st (by simp; omega) hs.1 (fun c hc => by show N ≤ c; omega) x.stamp) ?_
    rintro w g2 ⟨rfl, s2, k2⟩
    have y2 := k2.1
    have hn2 := (k2.get hns hnl).trans hn
    have u2 := o.us.kept k2 (by simp; omega) (fun _ _ _ e => e)
    have g2' := o.gq.put x.stamp x.chgs
    have ks2 := Kept.low o.kg k2 (by simp; omega)
    by_cases hc : (putM q x.stamp x.chgs).1 = 0
    · have hm := putM_zero hc
      rw [hm] at s2 g2'
      simp (disch := first | omega | (simp only [newRow_size, Array.size_setIfInBounds, Array.size_push]; done) | (simp only [newRow_size, Array.size_setIfInBounds, Array.size_push]; omega)) [hc, num_eq (F := F) (by omega), eqT, eqF, neT, neF, ltT, ltF, leT, leF, nltT, nltF, nleT, nleF, nneT, nneF, List.getElem?_cons_zero, List.getElem?_cons_succ, r11_11, hn2, srcOf]
      have hu2o := u2.sl.one
      have uR := u2.kept (rowKept g2 [.int .i64 x.stamp] 1 []) (by simp) (fun _ _ _ e => e)
      have sR := s2.frame (rowKept g2 [.int .i64 x.stamp] 1 [])
      refine Ans.next (uR.app (x := x.stamp) (bytes := 8) rfl ?_ ?_ (fun _ _ _ _ _ e => e) (fun _ _ => rfl)) ?_
      · rw [List.length_map]; omega
      · show N ≤ _; exact (by first | omega | (simp only [newRow_size, Array.size_setIfInBounds, Array.size_push]; done) | (simp only [newRow_size, Array.size_setIfInBounds, Array.size_push]; omega))
      rintro u3 g3 ⟨b3, k3, y3, e3⟩
      have yR : (Ev.newRow g2 [.int .i64 x.stamp] 1 []).size = g2.size + 1 := by simp
      simp (disch := first | omega | (simp only [newRow_size, Array.size_setIfInBounds, Array.size_push]; done) | (simp only [newRow_size, Array.size_setIfInBounds, Array.size_push]; omega)) []
      refine hk g3 u3 _ _ _ ⟨sR.keptC (e3 b (by omega) (uR.ne (by simp; omega))) (by rintro c e; cases e; exact e3 r (by omega) (uR.ne (by simp; omega))) k3, g2', by exact o.rm, ?_, ?_, by omega, ?_, hbh, hrh, hbl, hrl, hhN⟩
      · have gl := g2'.len
        have gr := g2'.room
        refine ⟨by omega, fun y hy => ?_⟩
        rcases List.mem_append.1 hy with hy | hy
        · exact o.sh.2 y hy
        · simp at hy; subst hy
          exact ⟨hs.1, by simp [ShortP]⟩
      · refine ⟨by have := ks2.1; omega, fun c hc _ => (e3 c (by have := ks2.1; omega) (uR.ne (by simp; omega))).trans ?_⟩
        have := ks2.1
        have e : hget (Ev.newRow g2 [.int .i64 x.stamp] 1 []) c = hget g2 c := by simp (disch := first | omega | (simp only [newRow_size, Array.size_setIfInBounds, Array.size_push]; done) | (simp only [newRow_size, Array.size_setIfInBounds, Array.size_push]; omega)) []
        exact e.trans (ks2.get hc (by simp))
      · simpa using b3
    · obtain ⟨hm, hno⟩ := putM_not hc
      rw [hm] at s2
      have oo : Ord h N b r room g2 u q f := ⟨s2, o.gq, o.rm, o.sh, ks2, by omega, u2, hbh, hrh, hbl, hrl, hhN⟩
      have hbs2 := lt_of_get s2.at'
      have hns2 := lt_of_get hn2
      have htl := st.len
      by_cases c1 : q.last < x.stamp
      · by_cases c2 : 0 < x.chgs.length
        · by_cases c3 : x.stamp ≤ 2147483647
          · by_cases c4 : q.items.length < q.room
            · have hbare := hno c1 c2 c3 c4
              have c4' : (q.items.length : Int) < room := by have := o.rm; omega
              simp (disch := first | omega | (simp only [newRow_size, Array.size_setIfInBounds, Array.size_push]; done) | (simp only [newRow_size, Array.size_setIfInBounds, Array.size_push]; omega)) [hc, num_eq (F := F) (by omega), eqT, eqF, neT, neF, ltT, ltF, leT, leF, nltT, nltF, nleT, nleF, nneT, nneF, List.getElem?_cons_zero, List.getElem?_cons_succ, d11_12, hn2, Last_eq (F := F) (by omega) s2, c1, c2, c3, c4', htl, hul]
              refine Ans.nextD (tagged_spec (F := F) (by omega) (SlTgd.imp st (ok' := fun b => b < h.size) (fun _ _ q => q) (keep_of k2.c (by simp; omega))) hs.1.1) ?_
              rintro w g3 ⟨rfl, k3⟩
              have hn3 := (k3.get hns2 (by simp)).trans hn2
              have y3 := k3.1
              simp (disch := first | omega | (simp only [newRow_size, Array.size_setIfInBounds, Array.size_push]; done) | (simp only [newRow_size, Array.size_setIfInBounds, Array.size_push]; omega)) [hbare, eqT, eqF, neT, neF, ltT, ltF, leT, leF, nltT, nltF, nleT, nleF, nneT, nneF, List.getElem?_cons_zero, List.getElem?_cons_succ, dk_go, chks_nil, chks_cons, chkA_nil, chkA_cons, chk1_no, chk1_yes, chkV_some, hAt_eq, hOf_some, hOf_none, sameV, sameL, sameCell, hn3, hn2]
              exact hk _ _ _ _ _ ⟨s2.frame k3, o.gq, o.rm, o.sh, ks2.trans k3, by omega, u2.kept k3 (by simp) (fun _ _ _ e => e), hbh, hrh, hbl, hrl, hhN⟩
            · have c4' : ¬ (q.items.length : Int) < room := by have := o.rm; omega
              simp (disch := first | omega | (simp only [newRow_size, Array.size_setIfInBounds, Array.size_push]; done) | (simp only [newRow_size, Array.size_setIfInBounds, Array.size_push]; omega)) [hc, num_eq (F := F) (by omega), eqT, eqF, neT, neF, ltT, ltF, leT, leF, nltT, nltF, nleT, nleF, nneT, nneF, List.getElem?_cons_zero, List.getElem?_cons_succ, d11_12, hn2, Last_eq (F := F) (by omega) s2, c1, c2, c3, c4', htl, hul, dk_go, chks_nil, chks_cons, chkA_nil, chkA_cons, chk1_no, chk1_yes, chkV_some, hAt_eq, hOf_some, hOf_none, sameV, sameL, sameCell]
              exact hk _ _ _ _ _ oo
          · simp (disch := first | omega | (simp only [newRow_size, Array.size_setIfInBounds, Array.size_push]; done) | (simp only [newRow_size, Array.size_setIfInBounds, Array.size_push]; omega)) [hc, num_eq (F := F) (by omega), eqT, eqF, neT, neF, ltT, ltF, leT, leF, nltT, nltF, nleT, nleF, nneT, nneF, List.getElem?_cons_zero, List.getElem?_cons_succ, d11_12, hn2, Last_eq (F := F) (by omega) s2, c1, c2, c3, htl, hul, dk_go, chks_nil, chks_cons, chkA_nil, chkA_cons, chk1_no, chk1_yes, chkV_some, hAt_eq, hOf_some, hOf_none, sameV, sameL, sameCell]
            exact hk _ _ _ _ _ oo
        · simp (disch := first | omega | (simp only [newRow_size, Array.size_setIfInBounds, Array.size_push]; done) | (simp only [newRow_size, Array.size_setIfInBounds, Array.size_push]; omega)) [hc, num_eq (F := F) (by omega), eqT, eqF, neT, neF, ltT, ltF, leT, leF, nltT, nltF, nleT, nleF, nneT, nneF, List.getElem?_cons_zero, List.getElem?_cons_succ, d11_12, hn2, Last_eq (F := F) (by omega) s2, c1, c2, htl, hul, dk_go, chks_nil, chks_cons, chkA_nil, chkA_cons, chk1_no, chk1_yes, chkV_some, hAt_eq, hOf_some, hOf_none, sameV, sameL, sameCell]
          exact hk _ _ _ _ _ oo
      · simp (disch := first | omega | (simp only [newRow_size, Array.size_setIfInBounds, Array.size_push]; done) | (simp only [newRow_size, Array.size_setIfInBounds, Array.size_push]; omega)) [hc, num_eq (F := F) (by omega), eqT, eqF, neT, neF, ltT, ltF, leT, leF, nltT, nltF, nleT, nleF, nneT, nneF, List.getElem?_cons_zero, List.getElem?_cons_succ, d11_12, hn2, Last_eq (F := F) (by omega) s2, c1, htl, hul, dk_go, chks_nil, chks_cons, chkA_nil, chkA_cons, chk1_no, chk1_yes, chkV_some, hAt_eq, hOf_some, hOf_none, sameV, sameL, sameCell]
        exact hk _ _ _ _ _ oo
  · by_cases h2 : x.kind = 2
    · simp (disch := first | omega | (simp only [newRow_size, Array.size_setIfInBounds, Array.size_push]; done) | (simp only [newRow_size, Array.size_setIfInBounds, Array.size_push]; omega)) [swi, r11_8, r11_9, r11_14, r11_15, hn, h2, eqT, eqF, neT, neF, ltT, ltF, leT, leF, nltT, nltF, nleT, nleF, nneT, nneF, List.getElem?_cons_zero, List.getElem?_cons_succ]
      refine Ans.next (Collapse_spec (F := F) (by omega) o.sq o.gq sp (by simp; omega) (by rintro c e; cases e; simp; omega) hs.2 (fun c hc => by show N ≤ c; omega) x.stamp) ?_
      rintro w g2 ⟨f2, rfl, s2, k2⟩
      have y2 := k2.1
      have hn2 := (k2.get hns hnl).trans hn
      have u2 := o.us.kept k2 (by simp; omega) (fun _ _ _ e => e)
      have g2' := o.gq.coll x.stamp x.prts
      have ks2 := Kept.low o.kg k2 (by simp; omega)
      by_cases hc : (collM q x.stamp x.prts).1 = 0
      · have hm := collM_zero hc
        rw [hm] at s2 g2'
        simp (disch := first | omega | (simp only [newRow_size, Array.size_setIfInBounds, Array.size_push]; done) | (simp only [newRow_size, Array.size_setIfInBounds, Array.size_push]; omega)) [hc, num_eq (F := F) (by omega), eqT, eqF, neT, neF, ltT, ltF, leT, leF, nltT, nltF, nleT, nleF, nneT, nneF, List.getElem?_cons_zero, List.getElem?_cons_succ, r11_16, hn2]
        have kR := rowKept g2 [.int .i64 x.stamp] 1 []
        refine hk _ _ _ _ _ ⟨s2.frame kR, g2', by exact o.rm, ⟨by simp, ?_⟩, ks2.trans kR, (by first | omega | (simp only [newRow_size, Array.size_setIfInBounds, Array.size_push]; done) | (simp only [newRow_size, Array.size_setIfInBounds, Array.size_push]; omega)), ?_, hbh, hrh, hbl, hrl, hhN⟩
        · intro y hy
          simp at hy; subst hy
          exact ⟨by simp [ShortT], hs.2⟩
        · refine .inr ⟨g2.size, 0, [.int .i64 x.stamp], [], by simp, by show N ≤ _; omega, by simp (disch := first | omega | (simp only [newRow_size, Array.size_setIfInBounds, Array.size_push]; done) | (simp only [newRow_size, Array.size_setIfInBounds, Array.size_push]; omega)) [], by simp, ?_⟩
          intro i y hy
          cases i with
          | succ i => simp at hy
          | zero =>
            simp at hy; subst hy
            simp [IntC]
      · obtain ⟨z1, _⟩ := o.sq.yes r rfl
        obtain ⟨hm, hno⟩ := collM_not z1 hc
        rw [hm] at s2
        have oo : Ord h N b r room g2 u q f2 := ⟨s2, o.gq, o.rm, o.sh, ks2, by omega, u2, hbh, hrh, hbl, hrl, hhN⟩
        have hbs2 := lt_of_get s2.at'
        have hns2 := lt_of_get hn2
        have htl := sp.len
        by_cases c1 : q.last < x.stamp
        · by_cases c2 : 0 < x.prts.length
          · have c3 : ¬ x.stamp ≤ 2147483647 := fun c3 => hno c1 c2 c3
            simp (disch := first | omega | (simp only [newRow_size, Array.size_setIfInBounds, Array.size_push]; done) | (simp only [newRow_size, Array.size_setIfInBounds, Array.size_push]; omega)) [hc, num_eq (F := F) (by omega), eqT, eqF, neT, neF, ltT, ltF, leT, leF, nltT, nltF, nleT, nleF, nneT, nneF, List.getElem?_cons_zero, List.getElem?_cons_succ, d11_17, hn2, Last_eq (F := F) (by omega) s2, c1, c2, c3, htl, hul, dk_go, chks_nil, chks_cons, chkA_nil, chkA_cons, chk1_no, chk1_yes, chkV_some, hAt_eq, hOf_some, hOf_none, sameV, sameL, sameCell]
            exact hk _ _ _ _ _ oo
          · simp (disch := first | omega | (simp only [newRow_size, Array.size_setIfInBounds, Array.size_push]; done) | (simp only [newRow_size, Array.size_setIfInBounds, Array.size_push]; omega)) [hc, num_eq (F := F) (by omega), eqT, eqF, neT, neF, ltT, ltF, leT, leF, nltT, nltF, nleT, nleF, nneT, nneF, List.getElem?_cons_zero, List.getElem?_cons_succ, d11_17, hn2, Last_eq (F := F) (by omega) s2, c1, c2, htl, hul, dk_go, chks_nil, chks_cons, chkA_nil, chkA_cons, chk1_no, chk1_yes, chkV_some, hAt_eq, hOf_some, hOf_none, sameV, sameL, sameCell]
            exact hk _ _ _ _ _ oo
        · simp (disch := first | omega | (simp only [newRow_size, Array.size_setIfInBounds, Array.size_push]; done) | (simp only [newRow_size, Array.size_setIfInBounds, Array.size_push]; omega)) [hc, num_eq (F := F) (by omega), eqT, eqF, neT, neF, ltT, ltF, leT, leF, nltT, nltF, nleT, nleF, nneT, nneF, List.getElem?_cons_zero, List.getElem?_cons_succ, d11_17, hn2, Last_eq (F := F) (by omega) s2, c1, htl, hul, dk_go, chks_nil, chks_cons, chkA_nil, chkA_cons, chk1_no, chk1_yes, chkV_some, hAt_eq, hOf_some, hOf_none, sameV, sameL, sameCell]
          exact hk _ _ _ _ _ oo
    · by_cases h4 : x.kind = 4
      · simp (disch := first | omega | (simp only [newRow_size, Array.size_setIfInBounds, Array.size_push]; done) | (simp only [newRow_size, Array.size_setIfInBounds, Array.size_push]; omega)) [swi, r11_8, r11_9, r11_14, r11_19, r11_20, hn, h4, eqT, eqF, neT, neF, ltT, ltF, leT, leF, nltT, nltF, nleT, nleF, nneT, nneF, List.getElem?_cons_zero, List.getElem?_cons_succ]
        refine Ans.next (Took_spec (F := F) (by omega) o.sq o.gq x.stamp) ?_
        rintro w g2 ⟨rfl, f2, s2, k2⟩
        have y2 := k2.1
        have hn2 := (k2.get hns hnl).trans hn
        have hns2 := lt_of_get hn2
        have u2 := o.us.kept k2 (by simp; omega) (fun _ _ _ e => e)
        have g2' := o.gq.took x.stamp
        have ks2 := Kept.low o.kg k2 (by simp; omega)
        simp (disch := first | omega | (simp only [newRow_size, Array.size_setIfInBounds, Array.size_push]; done) | (simp only [newRow_size, Array.size_setIfInBounds, Array.size_push]; omega)) [r11_21]
        refine loop_rule (fun m e k => ∃ (j : Nat), m = q.items.length - j ∧ j ≤ q.items.length ∧ e = [(0, .int .i64 room), (2, v), (7, .pointer (some ⟨b, 0, none⟩)), (9, u), (10, .int .i64 i), (11, .pointer (some ⟨n, 0, none⟩)), (12, .int .i64 (tookM q x.stamp).1), (13, .int .i64 j)] ∧ k = g2 ∧ (∀ y ∈ q.items.take j, decide (y.stamp ≤ x.stamp) = true)) ?_ _ q.items.length _ _ (by omega) ⟨0, by omega, by omega, rfl, rfl, by simp⟩
        rintro m e k again ⟨j, rfl, hj, rfl, rfl, hw⟩ ih
        have fin : (∀ y, q.items[j]? = some y → ¬ y.stamp ≤ x.stamp) → (tookM q x.stamp).1 = j ∧ (tookM q x.stamp).2.items = q.items.drop j := by
          intro hx
          obtain ⟨e1, e2⟩ := tw_of (fun y : Itm => decide (y.stamp ≤ x.stamp)) q.items j hj hw (fun y hy => by simpa using hx y hy)
          exact ⟨e1, e2⟩
        have done : (tookM q x.stamp).1 = j ∧ (tookM q x.stamp).2.items = q.items.drop j → ∃ v', slcV 1 u (some (.int .i64 j)) none = some v' ∧ Ord h N b r room k v' (tookM q x.stamp).2 f2 := by
          rintro ⟨e1, e2⟩
          obtain ⟨v', ev, bd⟩ := u2.drop (n := j) (by rw [List.length_map]; exact hj)
          refine ⟨v', ev, s2, g2', o.rm, ⟨by have := g2'.len; have := g2'.room; omega, fun y hy => ?_⟩, ks2, by omega, ?_, hbh, hrh, hbl, hrl, hhN⟩
          · rw [e2] at hy
            exact o.sh.2 y (List.mem_of_mem_drop hy)
          · rw [e2, List.map_drop]; exact bd
        by_cases hlt : j < q.items.length
        · obtain ⟨y, hy⟩ : ∃ y, q.items[j]? = some y := ⟨_, List.getElem?_eq_getElem hlt⟩
          have hy' : (q.items.map (·.stamp))[j]? = some y.stamp := by rw [List.getElem?_map, hy]; rfl
          obtain ⟨b', o', c', cs, es, lv, an, eu, hk', hg', hle', hR⟩ := u2.sl.at' hy'
          rw [List.length_map] at eu
          simp only [Nat.mul_one, IntC] at hle' hR
          have hw1 : IntKind.i64.wrap ((j : Int) + 1) = ((j + 1 : Nat) : Int) := by rw [wrap_id (by omega) (by omega)]; rfl
          by_cases hst : y.stamp ≤ x.stamp
          · simp (disch := first | omega | (simp only [newRow_size, Array.size_setIfInBounds, Array.size_push]; done) | (simp only [newRow_size, Array.size_setIfInBounds, Array.size_push]; omega)) [l11_24, d11_22, hul, eqT, eqF, neT, neF, ltT, ltF, leT, leF, nltT, nltF, nleT, nleF, nneT, nneF, List.getElem?_cons_zero, List.getElem?_cons_succ]
            simp (disch := first | omega | (simp only [newRow_size, Array.size_setIfInBounds, Array.size_push]; done) | (simp only [newRow_size, Array.size_setIfInBounds, Array.size_push]; omega)) [eu, hg', hR, hn2, hst, eqT, eqF, neT, neF, ltT, ltF, leT, leF, nltT, nltF, nleT, nleF, nneT, nneF, List.getElem?_cons_zero, List.getElem?_cons_succ, r11_23, hw1]
            refine ih (q.items.length - (j + 1)) _ _ (by omega) ⟨j + 1, rfl, by omega, by rw [eu]; simp, rfl, ?_⟩
            rw [take_snoc hy]
            intro z hz
            rcases List.mem_append.1 hz with hz | hz
            · exact hw z hz
            · simp at hz; subst hz; simpa using hst
          · have fj := fin (fun z hz => by rw [hy] at hz; cases hz; exact hst)
            obtain ⟨v', ev, oo⟩ := done fj
            simp (disch := first | omega | (simp only [newRow_size, Array.size_setIfInBounds, Array.size_push]; done) | (simp only [newRow_size, Array.size_setIfInBounds, Array.size_push]; omega)) [l11_24, d11_22, hul, eqT, eqF, neT, neF, ltT, ltF, leT, leF, nltT, nltF, nleT, nleF, nneT, nneF, List.getElem?_cons_zero, List.getElem?_cons_succ]
            rw [eu] at ev
            simp (disch := first | omega | (simp only [newRow_size, Array.size_setIfInBounds, Array.size_push]; done) | (simp only [newRow_size, Array.size_setIfInBounds, Array.size_push]; omega)) [eu, hg', hR, hn2, hst, eqT, eqF, neT, neF, ltT, ltF, leT, leF, nltT, nltF, nleT, nleF, nneT, nneF, List.getElem?_cons_zero, List.getElem?_cons_succ, r11_25, fj.1, r11_27, ev]
            exact hk _ _ _ _ _ oo
        · have fj := fin (fun z hz => by rw [List.getElem?_eq_none (by omega)] at hz; cases hz)
          obtain ⟨v', ev, oo⟩ := done fj
          simp (disch := first | omega | (simp only [newRow_size, Array.size_setIfInBounds, Array.size_push]; done) | (simp only [newRow_size, Array.size_setIfInBounds, Array.size_push]; omega)) [l11_24, d11_22, hul, eqT, eqF, neT, neF, ltT, ltF, leT, leF, nltT, nltF, nleT, nleF, nneT, nneF, List.getElem?_cons_zero, List.getElem?_cons_succ, r11_25, fj.1, r11_27, ev]
          exact hk _ _ _ _ _ oo
      · simp (disch := first | omega | (simp only [newRow_size, Array.size_setIfInBounds, Array.size_push]; done) | (simp only [newRow_size, Array.size_setIfInBounds, Array.size_push]; omega)) [swi, r11_8, r11_9, r11_14, r11_19, hn, h1, h2, h4, eqT, eqF, neT, neF, ltT, ltF, leT, leF, nltT, nltF, nleT, nleF, nneT, nneF, List.getElem?_cons_zero, List.getElem?_cons_succ]
        exact hk _ _ _ _ _ o

end Go.Proofs.Ytkkagpchcefidaa
