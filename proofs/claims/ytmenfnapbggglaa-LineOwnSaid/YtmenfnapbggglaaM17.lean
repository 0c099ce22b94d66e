/- Several texts in one: Ld8, Ld9, Ld10, Ld11. -/
import Derived.Test.YtmenfnapbggglaaM16

/- plays: Take, Double, Spoil. -/
set_option linter.unusedSimpArgs false
set_option linter.unusedVariables false
namespace Go.Proofs.Ytmenfnapbggglaa
open Go.Ev

theorem sameCell_str (b : ByteArray) : sameCell (.string b) (.string b) = true := by
  have := ba_self b
  simp [sameCell, this]
theorem numE {F : Nat} (hF : 1 ≤ F) (n : Int) (h : H) : cf F 20 [.int .i64 n] h = some (.int .i64 n, h) := by
  obtain ⟨F, rfl⟩ : ∃ G, F = G + 1 := ⟨F - 1, by omega⟩
  exact num_eq F n h

theorem PlDone.mid {P : Nat → Prop} {g g1 g2 g3 g4 : H} {lv : Value} {fl fl' : Flight} {last last' : Int} {nn : Bool} {W D cs cs2 : List _} {d rb : Nat} (s : PlS P g lv fl last nn W cs d D)
    (rf : RefL (fun c => P c ∨ g.size ≤ c) g1 cs2 fl' last' nn) (k1 : Kept g g1 []) (k2 : Kept g1 g2 []) (ls : LS g3 lv fl' last' nn W) (k3 : Kept g2 g3 W) (k4 : Kept g3 g4 []) (hrbs : rb < g.size) (nrb : ¬ P rb ∧ rb ∉ W ∧ rb ∉ D) :
    PlDone P g lv fl' last' nn W d D rb cs2 (g4.setIfInBounds rb (.cells cs2 0 true [])) := by
  have y1 := k1.1
  have y2 := k2.1
  have y3 := k3.1
  have y4 := k4.1
  have hWl := s.ls.lt
  have k04 : Kept g g4 W := ⟨by omega, fun c hc hn => (k4.get (by omega) (by simp)).trans ((k3.get (by omega) hn).trans ((k2.get (by omega) (by simp)).trans (k1.get hc (by simp))))⟩
  refine PlDone.of (P' := fun x => (P x ∨ g.size ≤ x) ∧ x < g1.size) (W5 := W) (D5 := D) ⟨ls.kept k4 (by simp), ?_, s.dk.kept k04 s.wd, ?_, s.wd, ?_, fun x hx => by have := hx.2; omega⟩ (k04.weak (fun c hc => List.mem_append_left _ hc)) (fun c hc => .inl hc) (fun c hc => .inl hc) (fun x hx => hx.1) hrbs nrb
  · refine rf.imp (fun x hx q => ⟨q, hx⟩) (fun x zs hx hz => (cel_congr ?_).trans hz)
    have hxl := cel_lt hz
    refine (k4.get (by omega) (by simp)).trans ((k3.get (by omega) (fun q => ?_)).trans (k2.get hxl (by simp)))
    rcases hx with r | r
    · exact s.pw x q r
    · have := hWl x q; omega
  · intro x hx q
    rcases q.1 with r | r
    · exact s.pd x hx r
    · have := s.dk.lt x hx; omega
  · intro x hx q
    rcases q.1 with r | r
    · exact s.pw x hx r
    · have := hWl x hx; omega

set_option maxHeartbeats 2000000 in
theorem takeC_spec {F : Nat} (hF : 3000 ≤ F) {P : Nat → Prop} {g : H} {lv : Value} {fl : Flight} {last : Int} {nn : Bool} {W : List Nat} {cs : List Value} {d : Nat} {D : List Nat} (s : PlS P g lv fl last nn W cs d D) (gd : Gd fl last) {wb sb rb : Nat} {kd on n at' turn : Int} {vm t : Value}
    (hwb : hget g wb = some (.cells cs 0 true [])) (hsb : hget g sb = some (.cells [.int .i64 kd, .int .i64 on, vm, .int .i64 n, .int .i64 at', .int .i64 turn] 0 true [])) (hrb : hget g rb = some (.cells [.slice none 0 0, .int .i64 0, .bool false] 0 true [])) (nrb : ¬ P rb ∧ rb ∉ W ∧ rb ∉ D)
    {kn kr : K} {ke : Nat → K} {Q : Value → H → Prop}
    (hk : ∀ g' cs', PlDone P g lv (takeR n fl) last nn W d D rb cs' g' → Ans (kr [(8, .pointer (some ⟨rb, 0, none⟩)), (9, .bool true)] g' []) Q) :
    Ans (evC F (cf F) takeC kn ke kr [(0, lv), (5, .pointer (some ⟨wb, 0, none⟩)), (6, .pointer (some ⟨sb, 0, none⟩)), (8, .pointer (some ⟨rb, 0, none⟩)), (37, .int .i64 kd), (115, t)] g []) Q := by
  have hwbs := lt_of_get hwb
  have hsbs := lt_of_get hsb
  have hrbs := lt_of_get hrb
  obtain ⟨vq, hcs, hvq⟩ := s.rf
  have oq := hvq.one
  simp only [oneCell] at oq
  have hwb' := hwb
  rw [hcs] at hwb'
  simp (disch := first | omega | (simp only [newRow_size, Array.size_setIfInBounds, Array.size_push]; done) | (simp only [newRow_size, Array.size_setIfInBounds, Array.size_push]; omega)) [takeC, r25_19, hwb', hsb, oq]
  rw [← hcs]
  have rf0 : RefL (fun c => P c ∨ g.size ≤ c) g cs fl last nn := s.rf.imp (fun _ _ q => .inl q) (fun _ _ _ e => e)
  refine Ans.next (refTake_spec (F := F) (by omega) rf0 (fun c hc => .inr hc) gd.len s.ls.none_fl n) ?_
  rintro v g1 ⟨cs2, rfl, rf1, k1⟩
  have y1 := k1.1
  generalize hM : (lookM n fl).1 = M
  generalize hE : (lookM n fl).2 = Ee
  have hMv : M.val = .agg ⟨[.int .i64 M.fr, .int .i64 M.to, .string M.b]⟩ := rfl
  have hMc : M.cells = [.int .i64 M.fr, .int .i64 M.to, .string M.b] := rfl
  rw [hMc]
  obtain ⟨v2, hcs2, hv2⟩ := id rf1
  have o2 := hv2.one
  have sv2 := hv2.same
  simp only [oneCell] at o2
  rw [hcs2]
  simp (disch := first | omega | (simp only [newRow_size, Array.size_setIfInBounds, Array.size_push]; done) | (simp only [newRow_size, Array.size_setIfInBounds, Array.size_push]; omega)) [o2, eqT, eqF, neT, neF, ltT, ltF, leT, leF, nltT, nltF, nleT, nleF, nneT, nneF, List.getElem?_cons_zero, List.getElem?_cons_succ]
  rw [← hcs2]
  generalize hmm : [Value.int .i64 M.fr, .int .i64 M.to, .string M.b] = mm
  generalize hgg : ((Ev.newRow (Ev.newRow g1 [.slice none 0 0, .int .i64 0, .bool false] 0 []) [.int .i64 0, .int .i64 0, .string ⟨#[]⟩] 0 []).setIfInBounds g1.size (.cells cs2 0 true [])).setIfInBounds (g1.size + 1) (.cells mm 0 true []) = g2
  have m0 : hget g2 g1.size = some (.cells cs2 0 true []) := by rw [← hgg]; simp (disch := first | omega | (simp only [newRow_size, Array.size_setIfInBounds, Array.size_push]; done) | (simp only [newRow_size, Array.size_setIfInBounds, Array.size_push]; omega)) []
  have m1 : hget g2 (g1.size + 1) = some (.cells mm 0 true []) := by rw [← hgg]; simp (disch := first | omega | (simp only [newRow_size, Array.size_setIfInBounds, Array.size_push]; done) | (simp only [newRow_size, Array.size_setIfInBounds, Array.size_push]; omega)) []
  have k2 : Kept g1 g2 [] := by rw [← hgg]; exact kept_set (kept_set (kept_row (rowKept _ _ _ _) _ _ _) (Nat.le_refl _) _) (by omega) _
  have z2 : g2.size = g1.size + 2 := by rw [← hgg]; simp
  clear hgg
  have k02 := k1.trans k2
  have hsb2 := (k02.get hsbs (by simp)).trans hsb
  have ls2 := s.ls.kept k02 (by simp)
  simp (disch := first | omega | (simp only [newRow_size, Array.size_setIfInBounds, Array.size_push]; done) | (simp only [newRow_size, Array.size_setIfInBounds, Array.size_push]; omega)) [r25_20, hsb2]
  refine Ans.next (ls2.take (F := F) (by omega) gd.w n) ?_
  rintro v g3 ⟨rfl, ls3, k3⟩
  have y3 := k3.1
  have hWl := s.ls.lt
  rw [hM, hE, hMv]
  simp (disch := first | omega | (simp only [newRow_size, Array.size_setIfInBounds, Array.size_push]; done) | (simp only [newRow_size, Array.size_setIfInBounds, Array.size_push]; omega)) [eqT, eqF, neT, neF, ltT, ltF, leT, leF, nltT, nltF, nleT, nleF, nneT, nneF, List.getElem?_cons_zero, List.getElem?_cons_succ]
  have n0 := (k3.get (by omega) (fun q => by have := hWl _ q; omega)).trans m0
  have n1 := (k3.get (by omega) (fun q => by have := hWl _ q; omega)).trans m1
  have nr := (k3.get (by omega) nrb.2.1).trans ((k02.get hrbs (by simp)).trans hrb)
  generalize hmm2 : [Value.int .i64 M.fr, .int .i64 M.to, .string M.b] = mm2
  have k4 := rowKept g3 mm2 0 []
  have m2 : hget (Ev.newRow g3 mm2 0 []) g3.size = some (.cells mm2 0 true []) := by simp
  have z4 : (Ev.newRow g3 mm2 0 []).size = g3.size + 1 := by simp
  generalize Ev.newRow g3 mm2 0 [] = g4 at k4 m2 z4 ⊢
  have n0' := (k4.get (by omega) (by simp)).trans n0
  have n1' := (k4.get (by omega) (by simp)).trans n1
  have nr' := (k4.get (by omega) (by simp)).trans nr
  subst hmm hmm2
  have n0s := lt_of_get n0'
  have n1s := lt_of_get n1'
  have nrs := lt_of_get nr'
  have m2s := lt_of_get m2
  have heq := ba_self M.b
  have ne1 : ¬ rb = g1.size := by omega
  have ne2 : ¬ rb = g1.size + 1 := by omega
  have ne3 : ¬ rb = g3.size := by omega
  have n0'' := n0'
  rw [hcs2] at n0''
  simp (disch := first | omega | (simp only [newRow_size, Array.size_setIfInBounds, Array.size_push]; done) | (simp only [newRow_size, Array.size_setIfInBounds, Array.size_push]; omega)) [d25_21, dk_go, chks_nil, chks_cons, chkA_nil, chkA_cons, chk1_no, chk1_yes, chkV_some, hAt_eq, hOf_some, hOf_none, sameV, sameL, n0'', n1', nr', m2, numE (F := F) (by omega), o2, eqT, eqF, neT, neF, ltT, ltF, leT, leF, nltT, nltF, nleT, nleF, nneT, nneF, List.getElem?_cons_zero, List.getElem?_cons_succ, sv2, ne1, ne2, ne3, sameCell_int, sameCell_bool, heq, sameCell_str]
  rw [← hcs2]
  exact hk _ _ (PlDone.mid s rf1 k1 k2 ls3 k3 k4 hrbs nrb)

set_option maxHeartbeats 2000000 in
theorem dblC_spec {F : Nat} (hF : 3000 ≤ F) {P : Nat → Prop} {g : H} {lv : Value} {fl : Flight} {last : Int} {nn : Bool} {W : List Nat} {cs : List Value} {d : Nat} {D : List Nat} (s : PlS P g lv fl last nn W cs d D) (gd : Gd fl last) (hlast : last ≤ 50000000) {wb sb rb : Nat} {kd on n at' turn : Int} {vm t : Value}
    (hwb : hget g wb = some (.cells cs 0 true [])) (hsb : hget g sb = some (.cells [.int .i64 kd, .int .i64 on, vm, .int .i64 n, .int .i64 at', .int .i64 turn] 0 true [])) (hrb : hget g rb = some (.cells [.slice none 0 0, .int .i64 0, .bool false] 0 true [])) (nrb : ¬ P rb ∧ rb ∉ W ∧ rb ∉ D)
    {kn kr : K} {ke : Nat → K} {Q : Value → H → Prop}
    (hk : ∀ g' cs', PlDone P g lv (doubleR nn n fl last).1 (doubleR nn n fl last).2.1 nn W d D rb cs' g' → Ans (kr [(8, .pointer (some ⟨rb, 0, none⟩)), (9, .bool true)] g' []) Q) :
    Ans (evC F (cf F) dblC kn ke kr [(0, lv), (5, .pointer (some ⟨wb, 0, none⟩)), (6, .pointer (some ⟨sb, 0, none⟩)), (8, .pointer (some ⟨rb, 0, none⟩)), (37, .int .i64 kd), (142, t)] g []) Q := by
  have hwbs := lt_of_get hwb
  have hsbs := lt_of_get hsb
  have hrbs := lt_of_get hrb
  have hpos := gd.w.pos
  obtain ⟨vq, hcs, hvq⟩ := s.rf
  have oq := hvq.one
  simp only [oneCell] at oq
  have hwb' := hwb
  rw [hcs] at hwb'
  simp (disch := first | omega | (simp only [newRow_size, Array.size_setIfInBounds, Array.size_push]; done) | (simp only [newRow_size, Array.size_setIfInBounds, Array.size_push]; omega)) [dblC, r25_23, hwb', hsb, oq]
  rw [← hcs]
  have rf0 : RefL (fun c => P c ∨ g.size ≤ c) g cs fl last nn := s.rf.imp (fun _ _ q => .inl q) (fun _ _ _ e => e)
  refine Ans.next (refDouble_spec (F := F) (by omega) rf0 (fun c hc => .inr hc) gd.len (by omega) n) ?_
  rintro v g1 ⟨cs2, rfl, rf1, k1⟩
  have y1 := k1.1
  generalize hr1 : (doubleR nn n fl last).1 = fl' at rf1 hk
  generalize hr2 : (doubleR nn n fl last).2.1 = last' at rf1 hk
  generalize hr3 : (doubleR nn n fl last).2.2.1 = r3
  generalize hr4 : (doubleR nn n fl last).2.2.2 = r4
  obtain ⟨v2, hcs2, hv2⟩ := id rf1
  have o2 := hv2.one
  have sv2 := hv2.same
  simp only [oneCell] at o2
  rw [hcs2]
  simp (disch := first | omega | (simp only [newRow_size, Array.size_setIfInBounds, Array.size_push]; done) | (simp only [newRow_size, Array.size_setIfInBounds, Array.size_push]; omega)) [o2, eqT, eqF, neT, neF, ltT, ltF, leT, leF, nltT, nltF, nleT, nleF, nneT, nneF, List.getElem?_cons_zero, List.getElem?_cons_succ]
  rw [← hcs2]
  have m0 : hget (Ev.newRow g1 cs2 0 []) g1.size = some (.cells cs2 0 true []) := by simp (disch := first | omega | (simp only [newRow_size, Array.size_setIfInBounds, Array.size_push]; done) | (simp only [newRow_size, Array.size_setIfInBounds, Array.size_push]; omega)) []
  have k2 := rowKept g1 cs2 0 []
  have z2 : (Ev.newRow g1 cs2 0 []).size = g1.size + 1 := by simp
  generalize Ev.newRow g1 cs2 0 [] = g2 at m0 k2 z2 ⊢
  have k02 := k1.trans k2
  have hsb2 := (k02.get hsbs (by simp)).trans hsb
  have ls2 := s.ls.kept k02 (by simp)
  simp (disch := first | omega | (simp only [newRow_size, Array.size_setIfInBounds, Array.size_push]; done) | (simp only [newRow_size, Array.size_setIfInBounds, Array.size_push]; omega)) [r25_24, hsb2]
  refine Ans.next (ls2.double (F := F) (by omega) gd.w (by omega) n) ?_
  rintro v g3 ⟨rfl, ls3, k3⟩
  have y3 := k3.1
  have hWl := s.ls.lt
  rw [hr1, hr2] at ls3
  rw [hr3, hr4]
  have n0 := (k3.get (by omega) (fun q => by have := hWl _ q; omega)).trans m0
  have nr := (k3.get (by omega) nrb.2.1).trans ((k02.get hrbs (by simp)).trans hrb)
  have n0s := lt_of_get n0
  have nrs := lt_of_get nr
  have ne1 : ¬ rb = g1.size := by omega
  have n0'' := n0
  rw [hcs2] at n0''
  simp (disch := first | omega | (simp only [newRow_size, Array.size_setIfInBounds, Array.size_push]; done) | (simp only [newRow_size, Array.size_setIfInBounds, Array.size_push]; omega)) [eqT, eqF, neT, neF, ltT, ltF, leT, leF, nltT, nltF, nleT, nleF, nneT, nneF, List.getElem?_cons_zero, List.getElem?_cons_succ, d25_25, dk_go, chks_nil, chks_cons, chkA_nil, chkA_cons, chk1_no, chk1_yes, chkV_some, hAt_eq, hOf_some, hOf_none, sameV, sameL, n0'', nr, numE (F := F) (by omega), o2, sv2, ne1, sameCell_int, sameCell_bool]
  rw [← hcs2]
  exact hk _ _ (PlDone.mid s rf1 k1 k2 ls3 k3 (Kept.refl _ _) hrbs nrb)

set_option maxHeartbeats 2000000 in
theorem splC_spec {F : Nat} (hF : 3000 ≤ F) {P : Nat → Prop} {g : H} {lv : Value} {fl : Flight} {last : Int} {nn : Bool} {W : List Nat} {cs : List Value} {d : Nat} {D : List Nat} (s : PlS P g lv fl last nn W cs d D) (gd : Gd fl last) {wb sb rb : Nat} {kd on n at' turn : Int} {vm t : Value}
    (hwb : hget g wb = some (.cells cs 0 true [])) (hsb : hget g sb = some (.cells [.int .i64 kd, .int .i64 on, vm, .int .i64 n, .int .i64 at', .int .i64 turn] 0 true [])) (hrb : hget g rb = some (.cells [.slice none 0 0, .int .i64 0, .bool false] 0 true [])) (nrb : ¬ P rb ∧ rb ∉ W ∧ rb ∉ D)
    {kn kr : K} {ke : Nat → K} {Q : Value → H → Prop}
    (hk : ∀ g' cs', PlDone P g lv (spoilR n at' turn fl).1 last nn W d D rb cs' g' → Ans (kr [(8, .pointer (some ⟨rb, 0, none⟩)), (9, .bool true)] g' []) Q) :
    Ans (evC F (cf F) splC kn ke kr [(0, lv), (5, .pointer (some ⟨wb, 0, none⟩)), (6, .pointer (some ⟨sb, 0, none⟩)), (8, .pointer (some ⟨rb, 0, none⟩)), (37, .int .i64 kd), (169, t)] g []) Q := by
  have hwbs := lt_of_get hwb
  have hsbs := lt_of_get hsb
  have hrbs := lt_of_get hrb
  obtain ⟨vq, hcs, hvq⟩ := s.rf
  have oq := hvq.one
  simp only [oneCell] at oq
  have hwb' := hwb
  rw [hcs] at hwb'
  simp (disch := first | omega | (simp only [newRow_size, Array.size_setIfInBounds, Array.size_push]; done) | (simp only [newRow_size, Array.size_setIfInBounds, Array.size_push]; omega)) [splC, r25_27, hwb', hsb, oq]
  rw [← hcs]
  have rf0 : RefL (fun c => P c ∨ g.size ≤ c) g cs fl last nn := s.rf.imp (fun _ _ q => .inl q) (fun _ _ _ e => e)
  refine Ans.next (refSpoil_spec (F := F) (by omega) rf0 (fun c hc => .inr hc) gd.len s.ls.none_fl gd.sl n at' turn) ?_
  rintro v g1 ⟨cs2, rfl, rf1, k1⟩
  have y1 := k1.1
  generalize hr1 : (spoilR n at' turn fl).1 = fl' at rf1 hk
  generalize hr2 : (spoilR n at' turn fl).2 = r2
  obtain ⟨v2, hcs2, hv2⟩ := id rf1
  have o2 := hv2.one
  have sv2 := hv2.same
  simp only [oneCell] at o2
  rw [hcs2]
  simp (disch := first | omega | (simp only [newRow_size, Array.size_setIfInBounds, Array.size_push]; done) | (simp only [newRow_size, Array.size_setIfInBounds, Array.size_push]; omega)) [o2, eqT, eqF, neT, neF, ltT, ltF, leT, leF, nltT, nltF, nleT, nleF, nneT, nneF, List.getElem?_cons_zero, List.getElem?_cons_succ]
  rw [← hcs2]
  have m0 : hget (Ev.newRow g1 cs2 0 []) g1.size = some (.cells cs2 0 true []) := by simp (disch := first | omega | (simp only [newRow_size, Array.size_setIfInBounds, Array.size_push]; done) | (simp only [newRow_size, Array.size_setIfInBounds, Array.size_push]; omega)) []
  have k2 := rowKept g1 cs2 0 []
  have z2 : (Ev.newRow g1 cs2 0 []).size = g1.size + 1 := by simp
  generalize Ev.newRow g1 cs2 0 [] = g2 at m0 k2 z2 ⊢
  have k02 := k1.trans k2
  have hsb2 := (k02.get hsbs (by simp)).trans hsb
  have ls2 := s.ls.kept k02 (by simp)
  simp (disch := first | omega | (simp only [newRow_size, Array.size_setIfInBounds, Array.size_push]; done) | (simp only [newRow_size, Array.size_setIfInBounds, Array.size_push]; omega)) [r25_28, hsb2]
  refine Ans.next (ls2.spoil (F := F) (by omega) n at' turn) ?_
  rintro v g3 ⟨rfl, ls3, k3⟩
  have y3 := k3.1
  have hWl := s.ls.lt
  rw [hr1] at ls3
  rw [hr2]
  have n0 := (k3.get (by omega) (fun q => by have := hWl _ q; omega)).trans m0
  have nr := (k3.get (by omega) nrb.2.1).trans ((k02.get hrbs (by simp)).trans hrb)
  have n0s := lt_of_get n0
  have nrs := lt_of_get nr
  have ne1 : ¬ rb = g1.size := by omega
  have n0'' := n0
  rw [hcs2] at n0''
  simp (disch := first | omega | (simp only [newRow_size, Array.size_setIfInBounds, Array.size_push]; done) | (simp only [newRow_size, Array.size_setIfInBounds, Array.size_push]; omega)) [eqT, eqF, neT, neF, ltT, ltF, leT, leF, nltT, nltF, nleT, nleF, nneT, nneF, List.getElem?_cons_zero, List.getElem?_cons_succ, d25_29, dk_go, chks_nil, chks_cons, chkA_nil, chkA_cons, chk1_no, chk1_yes, chkV_some, hAt_eq, hOf_some, hOf_none, sameV, sameL, n0'', nr, numE (F := F) (by omega), o2, sv2, ne1, sameCell_int, sameCell_bool]
  rw [← hcs2]
  exact hk _ _ (PlDone.mid s rf1 k1 k2 ls3 k3 (Kept.refl _ _) hrbs nrb)

end Go.Proofs.Ytmenfnapbggglaa

/- plays: Look, Numbers; plays itself. -/
set_option linter.unusedSimpArgs false
set_option linter.unusedVariables false
namespace Go.Proofs.Ytmenfnapbggglaa
open Go.Ev

theorem sameV_int (k : IntKind) (n : Int) : sameV (.int k n) (.int k n) = true := by simp [sameV, sameCell]
theorem sameV_agg (l m : List Value) : sameV (.agg ⟨l⟩) (.agg ⟨m⟩) = sameL l m := rfl
theorem sameV_sl {ok : Nat → Prop} {w : Nat} {α : Type} {R : H → List Value → α → Prop} {h : H} {v : Value} {xs : List α} (s : SlR ok w R h v xs) : sameV v v = true := by
  rcases s with ⟨rfl | rfl, rfl⟩ | ⟨b, o, c, cs, rfl, _⟩ <;> simp [sameV, sameCell]

set_option maxHeartbeats 2000000 in
theorem lookC_spec {F : Nat} (hF : 3000 ≤ F) {P : Nat → Prop} {g : H} {lv : Value} {fl : Flight} {last : Int} {nn : Bool} {W : List Nat} {cs : List Value} {d : Nat} {D : List Nat} (s : PlS P g lv fl last nn W cs d D) (gd : Gd fl last) {wb sb rb : Nat} {kd on n at' turn : Int} {vm t : Value}
    (hwb : hget g wb = some (.cells cs 0 true [])) (hsb : hget g sb = some (.cells [.int .i64 kd, .int .i64 on, vm, .int .i64 n, .int .i64 at', .int .i64 turn] 0 true [])) (hrb : hget g rb = some (.cells [.slice none 0 0, .int .i64 0, .bool false] 0 true [])) (nrb : ¬ P rb ∧ rb ∉ W ∧ rb ∉ D) (nwr : ¬ rb = wb)
    {kn kr : K} {ke : Nat → K} {Q : Value → H → Prop}
    (hk : ∀ g' cs', PlDone P g lv fl last nn W d D rb cs' g' → Ans (kr [(8, .pointer (some ⟨rb, 0, none⟩)), (9, .bool true)] g' []) Q) :
    Ans (evC F (cf F) lookC kn ke kr [(0, lv), (5, .pointer (some ⟨wb, 0, none⟩)), (6, .pointer (some ⟨sb, 0, none⟩)), (8, .pointer (some ⟨rb, 0, none⟩)), (37, .int .i64 kd), (195, t)] g []) Q := by
  have hwbs := lt_of_get hwb
  have hsbs := lt_of_get hsb
  have hrbs := lt_of_get hrb
  obtain ⟨vq, hcs, hvq⟩ := s.rf
  have oq := hvq.one
  have sq := hvq.same
  simp only [oneCell] at oq
  have hwb' := hwb
  rw [hcs] at hwb'
  simp (disch := first | omega | (simp only [newRow_size, Array.size_setIfInBounds, Array.size_push]; done) | (simp only [newRow_size, Array.size_setIfInBounds, Array.size_push]; omega)) [lookC, r25_31, hwb', hsb, oq]
  rw [← hcs]
  refine Ans.next (refLook_spec (F := F) (by omega) s.rf gd.len n) ?_
  rintro v g1 ⟨rfl, k1⟩
  have y1 := k1.1
  generalize hM : (lookM n fl).1 = M
  generalize hE : (lookM n fl).2 = Ee
  have hMv : M.val = .agg ⟨[.int .i64 M.fr, .int .i64 M.to, .string M.b]⟩ := rfl
  rw [hMv]
  simp (disch := first | omega | (simp only [newRow_size, Array.size_setIfInBounds, Array.size_push]; done) | (simp only [newRow_size, Array.size_setIfInBounds, Array.size_push]; omega)) [eqT, eqF, neT, neF, ltT, ltF, leT, leF, nltT, nltF, nleT, nleF, nneT, nneF, List.getElem?_cons_zero, List.getElem?_cons_succ]
  generalize hmm : [Value.int .i64 M.fr, .int .i64 M.to, .string M.b] = mm
  have m1 : hget (Ev.newRow g1 mm 0 []) g1.size = some (.cells mm 0 true []) := by simp (disch := first | omega | (simp only [newRow_size, Array.size_setIfInBounds, Array.size_push]; done) | (simp only [newRow_size, Array.size_setIfInBounds, Array.size_push]; omega)) []
  have k2 := rowKept g1 mm 0 []
  have z2 : (Ev.newRow g1 mm 0 []).size = g1.size + 1 := by simp
  generalize Ev.newRow g1 mm 0 [] = g2 at m1 k2 z2 ⊢
  have k02 := k1.trans k2
  have hsb2 := (k02.get hsbs (by simp)).trans hsb
  have ls2 := s.ls.kept k02 (by simp)
  simp (disch := first | omega | (simp only [newRow_size, Array.size_setIfInBounds, Array.size_push]; done) | (simp only [newRow_size, Array.size_setIfInBounds, Array.size_push]; omega)) [r25_32, hsb2]
  refine Ans.next (ls2.look (F := F) (by omega) n) ?_
  rintro v g3 ⟨rfl, k3⟩
  have y3 := k3.1
  rw [hM, hE, hMv]
  simp (disch := first | omega | (simp only [newRow_size, Array.size_setIfInBounds, Array.size_push]; done) | (simp only [newRow_size, Array.size_setIfInBounds, Array.size_push]; omega)) [eqT, eqF, neT, neF, ltT, ltF, leT, leF, nltT, nltF, nleT, nleF, nneT, nneF, List.getElem?_cons_zero, List.getElem?_cons_succ]
  have n1 := (k3.get (by omega) (by simp)).trans m1
  have nr := (k3.get (by omega) (by simp)).trans ((k02.get hrbs (by simp)).trans hrb)
  have nw := (k3.get (by omega) (by simp)).trans ((k02.get hwbs (by simp)).trans hwb')
  generalize hmm2 : [Value.int .i64 M.fr, .int .i64 M.to, .string M.b] = mm2
  have k4 := rowKept g3 mm2 0 []
  have m2 : hget (Ev.newRow g3 mm2 0 []) g3.size = some (.cells mm2 0 true []) := by simp
  have z4 : (Ev.newRow g3 mm2 0 []).size = g3.size + 1 := by simp
  generalize Ev.newRow g3 mm2 0 [] = g4 at k4 m2 z4 ⊢
  have n1' := (k4.get (by omega) (by simp)).trans n1
  have nr' := (k4.get (by omega) (by simp)).trans nr
  have nw' := (k4.get (by omega) (by simp)).trans nw
  subst hmm hmm2
  have n1s := lt_of_get n1'
  have nrs := lt_of_get nr'
  have nws := lt_of_get nw'
  have m2s := lt_of_get m2
  have heq := ba_self M.b
  have ne2 : ¬ rb = g1.size := by omega
  have ne3 : ¬ rb = g3.size := by omega
  simp (disch := first | omega | (simp only [newRow_size, Array.size_setIfInBounds, Array.size_push]; done) | (simp only [newRow_size, Array.size_setIfInBounds, Array.size_push]; omega)) [d25_33, dk_go, chks_nil, chks_cons, chkA_nil, chkA_cons, chk1_no, chk1_yes, chkV_some, hAt_eq, hOf_some, hOf_none, sameV, sameL, n1', nr', nw', m2, numE (F := F) (by omega), oq, eqT, eqF, neT, neF, ltT, ltF, leT, leF, nltT, nltF, nleT, nleF, nneT, nneF, List.getElem?_cons_zero, List.getElem?_cons_succ, sq, nwr, ne2, ne3, sameCell_int, sameCell_bool, heq, sameCell_str]
  have rf0 : RefL (fun c => P c ∨ g.size ≤ c) g1 cs fl last nn := s.rf.imp (fun _ _ q => .inl q) (keep_of k1.c (by simp))
  rw [← hcs]
  exact hk _ _ (PlDone.mid s rf0 k1 k2 (ls2.kept k3 (by simp)) (k3.weak (by simp)) k4 hrbs nrb)

set_option maxHeartbeats 2000000 in
theorem numC_spec {F : Nat} (hF : 3000 ≤ F) {P : Nat → Prop} {g : H} {lv : Value} {fl : Flight} {last : Int} {nn : Bool} {W : List Nat} {cs : List Value} {d : Nat} {D : List Nat} (s : PlS P g lv fl last nn W cs d D) (gd : Gd fl last) (hlast : last ≤ 50000000) {wb rb : Nat} {t : Value}
    (hwb : hget g wb = some (.cells cs 0 true [])) (hrb : hget g rb = some (.cells [.slice none 0 0, .int .i64 0, .bool false] 0 true [])) (nrb : ¬ P rb ∧ rb ∉ W ∧ rb ∉ D) (nwr : ¬ rb = wb)
    {kn kr : K} {ke : Nat → K} {Q : Value → H → Prop}
    (hk : ∀ g' cs', PlDone P g lv fl last nn W d D rb cs' g' → Ans (kr [(8, .pointer (some ⟨rb, 0, none⟩)), (9, .bool true)] g' []) Q) :
    Ans (evC F (cf F) numC kn ke kr [(0, lv), (5, .pointer (some ⟨wb, 0, none⟩)), (8, .pointer (some ⟨rb, 0, none⟩)), (221, t)] g []) Q := by
  have hwbs := lt_of_get hwb
  have hrbs := lt_of_get hrb
  obtain ⟨vq, hcs, hvq⟩ := s.rf
  have oq := hvq.one
  have sq := hvq.same
  have svq := sameV_sl hvq
  simp only [oneCell] at oq
  have hwb' := hwb
  rw [hcs] at hwb'
  simp (disch := first | omega | (simp only [newRow_size, Array.size_setIfInBounds, Array.size_push]; done) | (simp only [newRow_size, Array.size_setIfInBounds, Array.size_push]; omega)) [numC, r25_35]
  refine Ans.next (s.ls.numbers (F := F) (by omega) gd.w gd.len (by omega)) ?_
  rintro u g1 ⟨su, k1⟩
  have y1 := k1.1
  have hwb1 := (k1.get hwbs (by simp)).trans hwb'
  have hrb1 := (k1.get hrbs (by simp)).trans hrb
  have rf1 : RefL P g1 [vq, .int .i64 last, .bool nn] fl last nn := by
    have := s.rf.imp (ok' := P) (fun _ _ q => q) (keep_of k1.c (by simp))
    rw [hcs] at this
    exact this
  simp (disch := first | omega | (simp only [newRow_size, Array.size_setIfInBounds, Array.size_push]; done) | (simp only [newRow_size, Array.size_setIfInBounds, Array.size_push]; omega)) [d25_36, dk_go, chks_nil, chks_cons, chkA_nil, chkA_cons, chk1_no, chk1_yes, chkV_some, hAt_eq, hOf_some, hOf_none, sameV, sameL, hwb1, oq, eqT, eqF, neT, neF, ltT, ltF, leT, leF, nltT, nltF, nleT, nleF, nneT, nneF, List.getElem?_cons_zero, List.getElem?_cons_succ, sq, sameCell_int, sameCell_bool]
  refine Ans.nextD (refNumbers_spec (F := F) (by omega) rf1 gd.len) ?_
  rintro u2 g2 ⟨su2, k2⟩
  have y2 := k2.1
  have hwb2 := (k2.get (by omega) (by simp)).trans hwb1
  have hrb2 := (k2.get (by omega) (by simp)).trans hrb1
  simp (disch := first | omega | (simp only [newRow_size, Array.size_setIfInBounds, Array.size_push]; done) | (simp only [newRow_size, Array.size_setIfInBounds, Array.size_push]; omega)) [dk_go, chks_nil, chks_cons, chkA_nil, chkA_cons, chk1_no, chk1_yes, chkV_some, hAt_eq, hOf_some, hOf_none, sameV, sameL, hwb1, hwb2, oq, eqT, eqF, neT, neF, ltT, ltF, leT, leF, nltT, nltF, nleT, nleF, nneT, nneF, List.getElem?_cons_zero, List.getElem?_cons_succ, sq, sameCell_int, sameCell_bool]
  have su' : SlR (fun c => g.size ≤ c) 1 IntC g2 u (fl.map (·.1)) := SlI.imp su (fun _ _ q => q) (keep_of k2.c (by simp))
  have hln := gd.len
  refine Ans.nextD (ints_same (F := F) (by omega) su' su2 (by simp; omega)) ?_
  rintro u3 g3 ⟨rfl, rfl⟩
  have hwb2s := lt_of_get hwb2
  have hrb2s := lt_of_get hrb2
  have hwb1s := lt_of_get hwb1
  simp (disch := first | omega | (simp only [newRow_size, Array.size_setIfInBounds, Array.size_push]; done) | (simp only [newRow_size, Array.size_setIfInBounds, Array.size_push]; omega)) [dk_go, chks_nil, chks_cons, chkA_nil, chkA_cons, chk1_no, chk1_yes, chkV_some, hAt_eq, hOf_some, hOf_none, sameV, sameL, hwb1, hwb2, hrb2, oq, eqT, eqF, neT, neF, ltT, ltF, leT, leF, nltT, nltF, nleT, nleF, nneT, nneF, List.getElem?_cons_zero, List.getElem?_cons_succ, sq, sameCell_int, sameCell_bool, nwr]
  have rf0 : RefL (fun c => P c ∨ g.size ≤ c) g1 cs fl last nn := s.rf.imp (fun _ _ q => .inl q) (keep_of k1.c (by simp))
  rw [← hcs]
  exact hk _ _ (PlDone.mid s rf0 k1 (Kept.refl _ _) (s.ls.kept k1 (by simp)) (Kept.refl _ _) k2 hrbs nrb)

end Go.Proofs.Ytmenfnapbggglaa

/- plays itself. -/
set_option linter.unusedSimpArgs false
set_option linter.unusedVariables false
namespace Go.Proofs.Ytmenfnapbggglaa
open Go.Ev

def StpC (OL : Nat → Prop) (h : H) (xcs : List Value) (x : Stp) : Prop := ∃ v, xcs = [.int .i64 x.kind, .int .i64 x.on, v, .int .i64 x.n, .int .i64 x.at', .int .i64 x.turn] ∧ SlR OL 3 MsgC h v x.msgs

def PlayP (P : Nat → Prop) (h : H) (lv : Value) (r : Flight × Int) (nn : Bool) (W : List Nat) (d : Nat) (D : List Nat) (u : Value) (h' : H) : Prop :=
  ∃ cs' W' D' P', u = .tuple ⟨[.agg ⟨cs'⟩, .bool true]⟩ ∧ PlS P' h' lv r.1 r.2 nn W' cs' d D' ∧ Kept h h' (W ++ D) ∧ (∀ c ∈ W', c ∈ W ∨ h.size ≤ c) ∧ (∀ c ∈ D', c ∈ D ∨ h.size ≤ c) ∧ (∀ c, P' c → P c ∨ h.size ≤ c)

set_option maxHeartbeats 2000000 in
theorem plays_spec {F : Nat} (hF : 3001 ≤ F) {P OL : Nat → Prop} {h : H} {lv : Value} {fl : Flight} {last : Int} {nn : Bool} {W : List Nat} {cs : List Value} {d : Nat} {D : List Nat} (s : PlS P h lv fl last nn W cs d D) (gd : Gd fl last) (hlast : last ≤ 50000000) {xcs : List Value} {x : Stp}
    (sx : StpC OL h xcs x) :
    Ans (cf F 25 [lv, .agg ⟨cs⟩, .agg ⟨xcs⟩, .pointer (some ⟨d, 0, none⟩)] h) (PlayP P h lv (stepL nn fl last x) nn W d D) := by
  generalize hQ : PlayP P h lv (stepL nn fl last x) nn W d D = Q
  obtain ⟨F, rfl⟩ : ∃ G, F = G + 1 := ⟨F - 1, by omega⟩
  have hres : a25.results = [.cellN 8 3, .tmp 9] := rfl
  rw [cf_step (a := a25) rfl rfl (by simp [a25]), a25_cut, hres]
  obtain ⟨vm, rfl, sl⟩ := sx
  have om := sl.one
  obtain ⟨vq, hcs, hvq⟩ := s.rf
  have oq := hvq.one
  simp only [oneCell] at om oq
  have hWl := s.ls.lt
  have hDl := s.dk.lt
  rw [hcs]
  simp (disch := first | omega | (simp only [newRow_size, Array.size_setIfInBounds, Array.size_push]; done) | (simp only [newRow_size, Array.size_setIfInBounds, Array.size_push]; omega)) [r25_0, om, oq]
  rw [← hcs]
  generalize hzz : [Value.slice none 0 0, .int .i64 0, .bool false] = zz
  generalize hxx : [Value.int .i64 x.kind, .int .i64 x.on, vm, .int .i64 x.n, .int .i64 x.at', .int .i64 x.turn] = xx
  have hwb : hget (Ev.newRow (Ev.newRow (Ev.newRow h cs 0 []) xx 0 []) zz 0 []) h.size = some (.cells cs 0 true []) := by simp (disch := first | omega | (simp only [newRow_size, Array.size_setIfInBounds, Array.size_push]; done) | (simp only [newRow_size, Array.size_setIfInBounds, Array.size_push]; omega)) []
  have hsb : hget (Ev.newRow (Ev.newRow (Ev.newRow h cs 0 []) xx 0 []) zz 0 []) (h.size + 1) = some (.cells xx 0 true []) := by simp (disch := first | omega | (simp only [newRow_size, Array.size_setIfInBounds, Array.size_push]; done) | (simp only [newRow_size, Array.size_setIfInBounds, Array.size_push]; omega)) []
  have hrb : hget (Ev.newRow (Ev.newRow (Ev.newRow h cs 0 []) xx 0 []) zz 0 []) (h.size + 2) = some (.cells zz 0 true []) := by simp (disch := first | omega | (simp only [newRow_size, Array.size_setIfInBounds, Array.size_push]; done) | (simp only [newRow_size, Array.size_setIfInBounds, Array.size_push]; omega)) []
  have k0 : Kept h (Ev.newRow (Ev.newRow (Ev.newRow h cs 0 []) xx 0 []) zz 0 []) [] := ((rowKept _ _ _ _).trans (rowKept _ _ _ _)).trans (rowKept _ _ _ _)
  generalize Ev.newRow (Ev.newRow (Ev.newRow h cs 0 []) xx 0 []) zz 0 [] = g at hwb hsb hrb k0 ⊢
  subst hzz hxx
  have y0 := k0.1
  have hwbs := lt_of_get hwb
  have hsbs := lt_of_get hsb
  have hrbs := lt_of_get hrb
  have sg := s.kept k0 (by simp)
  have hnew : ∀ c, h.size ≤ c → ¬ P c ∧ c ∉ W ∧ c ∉ D := fun c hc => ⟨fun q => by have := s.plt c q; omega, fun q => by have := hWl c q; omega, fun q => by have := hDl c q; omega⟩
  have sl' := SlM.imp sl (ok' := OL) (fun _ _ q => q) (keep_of k0.c (by simp))
  have fin : ∀ (fl' : Flight) (last' : Int) g' cs', stepL nn fl last x = (fl', last') → PlDone P g lv fl' last' nn W d D (h.size + 2) cs' g' → Ans (endK (cfX XD) [.cellN 8 3, .tmp 9] [(8, .pointer (some ⟨h.size + 2, 0, none⟩)), (9, .bool true)] g' []) Q := by
    rintro fl' last' g' cs' hst ⟨W', D', P', e1, e2, e3, e4, e5, e6⟩
    obtain ⟨v', hcs', hv'⟩ := e2.rf
    have o' := hv'.one
    simp only [oneCell] at o'
    have e1' := e1
    rw [hcs'] at e1'
    have e1s := lt_of_get e1'
    simp (disch := first | omega | (simp only [newRow_size, Array.size_setIfInBounds, Array.size_push]; done) | (simp only [newRow_size, Array.size_setIfInBounds, Array.size_push]; omega)) [e1', o']
    subst hQ
    rw [← hcs', hst]
    refine Ans.of ⟨cs', W', D', P', rfl, e2, ?_, ?_, ?_, ?_⟩
    · refine ⟨by have := e3.1; omega, fun c hc hn => (e3.get (by omega) ?_).trans (k0.get hc (by simp))⟩
      simp only [List.mem_cons, not_or]
      exact ⟨by omega, hn⟩
    · intro c hc
      rcases e4 c hc with r | r
      · exact .inl r
      · exact .inr (by omega)
    · intro c hc
      rcases e5 c hc with r | r
      · exact .inl r
      · exact .inr (by omega)
    · intro c hc
      rcases e6 c hc with r | r
      · exact .inl r
      · exact .inr (by omega)
  by_cases h1 : x.kind = 1
  · have hm : stepL nn fl last x = ((sendR nn fl last (cut x.msgs)).1, (sendR nn fl last (cut x.msgs)).2.1) := by unfold stepL; rw [if_pos h1]
    simp (disch := first | omega | (simp only [newRow_size, Array.size_setIfInBounds, Array.size_push]; done) | (simp only [newRow_size, Array.size_setIfInBounds, Array.size_push]; omega)) [r25_1, hsb, r25_2, h1, eqT, eqF, neT, neF, ltT, ltF, leT, leF, nltT, nltF, nleT, nleF, nneT, nneF, List.getElem?_cons_zero, List.getElem?_cons_succ]
    exact sendC_spec (F := F) (by omega) sg gd hlast hwb (by rw [← h1]; exact hsb) hrb (hnew _ (by omega)) sl' (fun g' cs' p => fin _ _ g' cs' hm p)
  by_cases h2 : x.kind = 2
  · have hm : stepL nn fl last x = (takeR x.n fl, last) := by unfold stepL; rw [if_neg h1, if_pos h2]
    simp (disch := first | omega | (simp only [newRow_size, Array.size_setIfInBounds, Array.size_push]; done) | (simp only [newRow_size, Array.size_setIfInBounds, Array.size_push]; omega)) [r25_1, hsb, r25_2, h2, eqT, eqF, neT, neF, ltT, ltF, leT, leF, nltT, nltF, nleT, nleF, nneT, nneF, List.getElem?_cons_zero, List.getElem?_cons_succ, r25_18]
    exact takeC_spec (F := F) (by omega) sg gd hwb (by rw [← h2]; exact hsb) hrb (hnew _ (by omega)) (fun g' cs' p => fin _ _ g' cs' hm p)
  by_cases h3 : x.kind = 3
  · have hm : stepL nn fl last x = ((doubleR nn x.n fl last).1, (doubleR nn x.n fl last).2.1) := by unfold stepL; rw [if_neg h1, if_neg h2, if_pos h3]
    simp (disch := first | omega | (simp only [newRow_size, Array.size_setIfInBounds, Array.size_push]; done) | (simp only [newRow_size, Array.size_setIfInBounds, Array.size_push]; omega)) [r25_1, hsb, r25_2, h3, eqT, eqF, neT, neF, ltT, ltF, leT, leF, nltT, nltF, nleT, nleF, nneT, nneF, List.getElem?_cons_zero, List.getElem?_cons_succ, r25_18, r25_22]
    exact dblC_spec (F := F) (by omega) sg gd hlast hwb (by rw [← h3]; exact hsb) hrb (hnew _ (by omega)) (fun g' cs' p => fin _ _ g' cs' hm p)
  by_cases h4 : x.kind = 4
  · have hm : stepL nn fl last x = ((spoilR x.n x.at' x.turn fl).1, last) := by unfold stepL; rw [if_neg h1, if_neg h2, if_neg h3, if_pos h4]
    simp (disch := first | omega | (simp only [newRow_size, Array.size_setIfInBounds, Array.size_push]; done) | (simp only [newRow_size, Array.size_setIfInBounds, Array.size_push]; omega)) [r25_1, hsb, r25_2, h4, eqT, eqF, neT, neF, ltT, ltF, leT, leF, nltT, nltF, nleT, nleF, nneT, nneF, List.getElem?_cons_zero, List.getElem?_cons_succ, r25_18, r25_22, r25_26]
    exact splC_spec (F := F) (by omega) sg gd hwb (by rw [← h4]; exact hsb) hrb (hnew _ (by omega)) (fun g' cs' p => fin _ _ g' cs' hm p)
  have hm : stepL nn fl last x = (fl, last) := by unfold stepL; rw [if_neg h1, if_neg h2, if_neg h3, if_neg h4]
  by_cases h5 : x.kind = 5
  · simp (disch := first | omega | (simp only [newRow_size, Array.size_setIfInBounds, Array.size_push]; done) | (simp only [newRow_size, Array.size_setIfInBounds, Array.size_push]; omega)) [r25_1, hsb, r25_2, h5, eqT, eqF, neT, neF, ltT, ltF, leT, leF, nltT, nltF, nleT, nleF, nneT, nneF, List.getElem?_cons_zero, List.getElem?_cons_succ, r25_18, r25_22, r25_26, r25_30]
    exact lookC_spec (F := F) (by omega) sg gd hwb (by rw [← h5]; exact hsb) hrb (hnew _ (by omega)) (by omega) (fun g' cs' p => fin _ _ g' cs' hm p)
  by_cases h6 : x.kind = 6
  · simp (disch := first | omega | (simp only [newRow_size, Array.size_setIfInBounds, Array.size_push]; done) | (simp only [newRow_size, Array.size_setIfInBounds, Array.size_push]; omega)) [r25_1, hsb, r25_2, h6, eqT, eqF, neT, neF, ltT, ltF, leT, leF, nltT, nltF, nleT, nleF, nneT, nneF, List.getElem?_cons_zero, List.getElem?_cons_succ, r25_18, r25_22, r25_26, r25_30, r25_34]
    exact numC_spec (F := F) (by omega) sg gd hlast hwb hrb (hnew _ (by omega)) (by omega) (fun g' cs' p => fin _ _ g' cs' hm p)
  · have hwb' := hwb
    rw [hcs] at hwb'
    simp (disch := first | omega | (simp only [newRow_size, Array.size_setIfInBounds, Array.size_push]; done) | (simp only [newRow_size, Array.size_setIfInBounds, Array.size_push]; omega)) [r25_1, hsb, r25_2, h1, h2, h3, h4, h5, h6, eqT, eqF, neT, neF, ltT, ltF, leT, leF, nltT, nltF, nleT, nleF, nneT, nneF, List.getElem?_cons_zero, List.getElem?_cons_succ, r25_18, r25_22, r25_26, r25_30, r25_34, r25_37, hwb', hrb, oq]
    have this := fin fl last _ cs hm (PlDone.of (W5 := W) (D5 := D) sg (Kept.refl _ _) (fun c hc => .inl hc) (fun c hc => .inl hc) (fun c hc => .inl hc) hrbs (hnew _ (by omega)))
    rw [hcs] at this
    simp (disch := first | omega | (simp only [newRow_size, Array.size_setIfInBounds, Array.size_push]; done) | (simp only [newRow_size, Array.size_setIfInBounds, Array.size_push]; omega)) [hrbs, oq] at this
    exact this

end Go.Proofs.Ytmenfnapbggglaa

/- only: a script on a new line; the laws over one script. -/
set_option linter.unusedSimpArgs false
set_option linter.unusedVariables false
namespace Go.Proofs.Ytmenfnapbggglaa
open Go.Ev

theorem StpC.imp {OL OL' : Nat → Prop} {h h' : H} {xcs : List Value} {x : Stp} (s : StpC OL h xcs x) (h1 : ∀ b, b < h.size → OL b → OL' b) (h3 : ∀ b cs, OL b → cel h b = some cs → cel h' b = some cs) : StpC OL' h' xcs x := by
  obtain ⟨v, e, s⟩ := s
  exact ⟨v, e, SlM.imp s h1 h3⟩

theorem desk_new {h : H} {d : Nat} (hd : hget h d = some (.cells [.slice none 0 0] 0 true [])) : DeskS h d [d] :=
  ⟨_, 0, [], [], hd, .inl ⟨rfl, rfl, rfl, rfl⟩, by simp, by simp, by simp, by omega, rfl⟩

/-- A line in a script, with the document's line in a block of its own; all of it newer than h. -/
structure Sc (h : H) (P : Nat → Prop) (g : H) (lv : Value) (fl : Flight) (last : Int) (nn : Bool) (W : List Nat) (cs : List Value) (d : Nat) (D : List Nat) (wb : Nat) : Prop where
  pl : PlS P g lv fl last nn W cs d D
  good : Gd fl last
  wat : hget g wb = some (.cells cs 0 true [])
  wP : ¬ P wb
  wW : wb ∉ W
  wD : wb ∉ D
  kg : Kept h g []
  nW : ∀ c ∈ W, h.size ≤ c
  nD : ∀ c ∈ D, h.size ≤ c
  nw : h.size ≤ wb

/-- What is left behind a step: the answer lies in nb, and then in wb. -/
theorem Sc.step {h g g1 g2 g4 : H} {P : Nat → Prop} {lv : Value} {fl fl' : Flight} {last last' : Int} {nn : Bool} {W : List Nat} {cs : List Value} {d : Nat} {D : List Nat} {wb : Nat} (s : Sc h P g lv fl last nn W cs d D wb) (hq : Gd fl' last')
    (k1 : Kept g g1 []) {cs' : List Value} {W' D' : List Nat} {P' : Nat → Prop} (pl : PlS P' g2 lv fl' last' nn W' cs' d D') (k2 : Kept g1 g2 (W ++ D)) (hW' : ∀ c ∈ W', c ∈ W ∨ g1.size ≤ c) (hD' : ∀ c ∈ D', c ∈ D ∨ g1.size ≤ c) (hP' : ∀ c, P' c → P c ∨ g1.size ≤ c)
    {L : List Nat} (k4 : Kept g2 g4 L) (hL : ∀ c ∈ L, c = wb ∨ (g.size ≤ c ∧ c < g1.size)) (hw : hget g4 wb = some (.cells cs' 0 true [])) : Sc h P' g4 lv fl' last' nn W' cs' d D' wb := by
  have y0 := s.kg.1
  have y1 := k1.1
  have y2 := k2.1
  have y4 := k4.1
  have hwl := lt_of_get s.wat
  have hWl := s.pl.ls.lt
  have hDl := s.pl.dk.lt
  have hL2 : ∀ c ∈ L, c ∉ W' ∧ c ∉ D' ∧ ¬ P' c := by
    intro c hc
    rcases hL c hc with rfl | ⟨r1, r2⟩
    · refine ⟨fun q => ?_, fun q => ?_, fun q => ?_⟩
      · rcases hW' _ q with r | r
        · exact s.wW r
        · omega
      · rcases hD' _ q with r | r
        · exact s.wD r
        · omega
      · rcases hP' _ q with r | r
        · exact s.wP r
        · omega
    · refine ⟨fun q => ?_, fun q => ?_, fun q => ?_⟩
      · rcases hW' _ q with r | r
        · have := hWl _ r; omega
        · omega
      · rcases hD' _ q with r | r
        · have := hDl _ r; omega
        · omega
      · rcases hP' _ q with r | r
        · have := s.pl.plt _ r; omega
        · omega
  refine ⟨pl.kept k4 hL2, hq, hw, ?_, ?_, ?_, ⟨by omega, fun c hc _ => ?_⟩, ?_, ?_, s.nw⟩
  · intro q
    rcases hP' _ q with r | r
    · exact s.wP r
    · omega
  · intro q
    rcases hW' _ q with r | r
    · exact s.wW r
    · omega
  · intro q
    rcases hD' _ q with r | r
    · exact s.wD r
    · omega
  · have a1 : c ∉ L := fun q => by
      have := s.nw
      rcases hL c q with rfl | ⟨r1, r2⟩ <;> omega
    have a2 : c ∉ W ++ D := fun q => by
      rcases List.mem_append.1 q with r | r
      · have := s.nW c r; omega
      · have := s.nD c r; omega
    exact (k4.get (by omega) a1).trans ((k2.get (by omega) a2).trans ((k1.get (by omega) (by simp)).trans (s.kg.get hc (by simp))))
  · intro c hc
    rcases hW' c hc with r | r
    · exact s.nW c r
    · omega
  · intro c hc
    rcases hD' c hc with r | r
    · exact s.nD c r
    · omega

theorem knownK {F : Nat} (hF : 4 ≤ F) (h : H) : Ans (cf F 21 [] h) fun r h' => r = .bool true ∧ Kept h h' [] := by
  obtain ⟨F, rfl⟩ : ∃ G, F = G + 1 + 2 + 1 := ⟨F - 4, by omega⟩
  refine (known_spec F h).mono ?_
  rintro v h' ⟨e, k⟩
  exact ⟨e, k.kept (by simp)⟩

set_option maxHeartbeats 1000000 in
theorem only_spec {F : Nat} (hF : 3002 ≤ F) {h : H} (lo hi : Int) {ok : Nat → Prop} {v : Value} {script : List Stp} (s : SlR ok 6 (StpC ok) h v script) :
    Ans (cf F 23 [v, .int .i64 lo, .int .i64 hi] h) fun u h' => u = .bool true ∧ Kept h h' [] := by
  generalize hQ : (fun (u : Value) (h' : H) => u = Value.bool true ∧ Kept h h' []) = Q
  obtain ⟨F, rfl⟩ : ∃ G, F = G + 1 := ⟨F - 1, by omega⟩
  rw [cf_step (a := a23) rfl rfl (by simp [a23])]
  have hl := s.len
  have hnew : ∀ h, cf F 15 [] h = some (.pointer (some ⟨h.size, 0, none⟩), Ev.newRow h [.map none, .int .i64 0] 0 []) := by
    obtain ⟨F, rfl⟩ : ∃ G, F = G + 1 := ⟨F - 1, by omega⟩
    exact fun h => new_eq F h
  simp (disch := first | omega | (simp only [newRow_size, Array.size_setIfInBounds, Array.size_push]; done) | (simp only [newRow_size, Array.size_setIfInBounds, Array.size_push]; omega)) [a23, r23_0, r23_1, hnew, r23_2, nilEq, eqT, eqF, neT, neF, ltT, ltF, leT, leF, nltT, nltF, nleT, nleF, nneT, nneF, List.getElem?_cons_zero, List.getElem?_cons_succ, r23_4]
  have hl1 : hget (Ev.newRow h [.map none, .int .i64 0] 0 []) h.size = some (.cells [.map none, .int .i64 0] 0 true []) := by simp
  have k1 := rowKept h [.map none, .int .i64 0] 0 []
  have z1 : (Ev.newRow h [.map none, .int .i64 0] 0 []).size = h.size + 1 := by simp
  generalize Ev.newRow h [.map none, .int .i64 0] 0 [] = g1 at hl1 k1 z1 ⊢
  refine Ans.next (refNew_spec (F := F) (by omega) g1) ?_
  rintro u g2 ⟨rfl, k2⟩
  have y2 := k2.1
  simp (disch := first | omega | (simp only [newRow_size, Array.size_setIfInBounds, Array.size_push]; done) | (simp only [newRow_size, Array.size_setIfInBounds, Array.size_push]; omega)) [eqT, eqF, neT, neF, ltT, ltF, leT, leF, nltT, nltF, nleT, nleF, nneT, nneF, List.getElem?_cons_zero, List.getElem?_cons_succ, r23_5]
  generalize hzz : [Value.slice none 0 0, .int .i64 0, .bool false] = zz
  have hwb : hget (Ev.newRow (Ev.newRow g2 zz 0 []) [.slice none 0 0] 0 []) g2.size = some (.cells zz 0 true []) := by simp (disch := first | omega | (simp only [newRow_size, Array.size_setIfInBounds, Array.size_push]; done) | (simp only [newRow_size, Array.size_setIfInBounds, Array.size_push]; omega)) []
  have hd : hget (Ev.newRow (Ev.newRow g2 zz 0 []) [.slice none 0 0] 0 []) (g2.size + 1) = some (.cells [.slice none 0 0] 0 true []) := by simp (disch := first | omega | (simp only [newRow_size, Array.size_setIfInBounds, Array.size_push]; done) | (simp only [newRow_size, Array.size_setIfInBounds, Array.size_push]; omega)) []
  have k3 : Kept g2 (Ev.newRow (Ev.newRow g2 zz 0 []) [.slice none 0 0] 0 []) [] := kept_row (rowKept _ _ _ _) _ _ _
  have z3 : (Ev.newRow (Ev.newRow g2 zz 0 []) [.slice none 0 0] 0 []).size = g2.size + 2 := by simp
  generalize Ev.newRow (Ev.newRow g2 zz 0 []) [.slice none 0 0] 0 [] = g3 at hwb hd k3 z3 ⊢
  subst hzz
  have k23 := k2.trans k3
  have hl3 := (k23.get (by omega) (by simp)).trans hl1
  have sc0 : Sc h (fun _ => False) g3 (.pointer (some ⟨h.size, 0, none⟩)) [] 0 false [h.size] [.slice none 0 0, .int .i64 0, .bool false] (g2.size + 1) [g2.size + 1] g2.size := by
    refine ⟨⟨.inr ⟨h.size, none, rfl, rfl, ⟨hl3, fun _ => rfl, nofun⟩, rfl⟩, ⟨_, rfl, .inl ⟨.inl rfl, rfl⟩⟩, desk_new hd, by simp, ?_, by simp, fun c q => q.elim⟩, Gd.nil, hwb, by simp, ?_, by simp, k1.trans k23, by simp, ?_, by omega⟩
    · intro c hc q
      simp at hc q
      omega
    · simp; omega
    · intro c hc
      simp at hc
      omega
  refine loop_rule (fun m e g => ∃ (i : Nat) (P : Nat → Prop) (fl : Flight) (last : Int) (W : List Nat) (cs : List Value) (D : List Nat), m = 120 - i ∧ i ≤ 120 ∧ last ≤ 300 * i ∧ e = [(0, v), (1, .int .i64 lo), (2, .int .i64 hi), (7, .pointer (some ⟨h.size, 0, none⟩)), (8, .pointer (some ⟨g2.size, 0, none⟩)), (9, .pointer (some ⟨g2.size + 1, 0, none⟩)), (10, .int .i64 i)] ∧ Sc h P g (.pointer (some ⟨h.size, 0, none⟩)) fl last false W cs (g2.size + 1) D g2.size) ?_ _ 120 _ _ (by omega) ⟨0, _, _, _, _, _, _, by omega, by omega, by omega, rfl, sc0⟩
  clear sc0
  rintro m e g again ⟨i, P, fl, last, W, cs, D, rfl, hi120, hlast, rfl, sc⟩ ih
  have hw1 : IntKind.i64.wrap ((i : Int) + 1) = ((i + 1 : Nat) : Int) := by rw [wrap_id (by omega) (by omega)]; rfl
  by_cases hlt : i < script.length ∧ i < 120
  · obtain ⟨x, hx⟩ : ∃ x, script[i]? = some x := ⟨_, List.getElem?_eq_getElem hlt.1⟩
    have sg := SlR.imp s (ok' := fun c => ok c ∧ c < h.size) (R' := StpC (fun c => ok c ∧ c < h.size)) (h' := g) (fun c hc q => ⟨q, hc⟩) (fun cs x _ q => StpC.imp q (fun c hc q => ⟨q, hc⟩) (keep_of sc.kg.c (by simp))) (keep_of sc.kg.c (by simp))
    obtain ⟨b', o, c, csx, es, lv, an, rfl, hk, hg, hle, hx5⟩ := sg.at' hx
    have hcl : ((csx.drop (o + i * 6)).take 6).length = 6 := by simp; omega
    obtain ⟨vq, hcs, hvq⟩ := sc.pl.rf
    have oq := hvq.one
    simp only [oneCell] at oq
    have hwat := sc.wat
    rw [hcs] at hwat
    have hgs := lt_of_get hg
    have hws := lt_of_get hwat
    simp (disch := first | omega | (simp only [newRow_size, Array.size_setIfInBounds, Array.size_push]; done) | (simp only [newRow_size, Array.size_setIfInBounds, Array.size_push]; omega)) [l23_13, r23_7, hg, hl, eqT, eqF, neT, neF, ltT, ltF, leT, leF, nltT, nltF, nleT, nleF, nneT, nneF, List.getElem?_cons_zero, List.getElem?_cons_succ, d23_8, hwat, oq]
    rw [← hcs]
    have k5 := rowKept g [.slice none 0 0, .int .i64 0, .bool false] 0 []
    have hnb : hget (Ev.newRow g [.slice none 0 0, .int .i64 0, .bool false] 0 []) g.size = some (.cells [.slice none 0 0, .int .i64 0, .bool false] 0 true []) := by simp
    have z5 : (Ev.newRow g [.slice none 0 0, .int .i64 0, .bool false] 0 []).size = g.size + 1 := by simp
    generalize Ev.newRow g [.slice none 0 0, .int .i64 0, .bool false] 0 [] = g5 at k5 hnb z5 ⊢
    have hx6 := StpC.imp hx5 (OL' := fun c => ok c ∧ c < h.size) (fun _ _ q => q) (keep_of k5.c (by simp))
    have hW5 := sc.pl.ls.lt
    have hD5 := sc.pl.dk.lt
    refine Ans.nextE (plays_spec (F := F) (by omega) (sc.pl.kept k5 (by simp)) sc.good (by omega) hx6) ?_
    rintro u g6 ⟨cs', W', D', P', rfl, pl6, k6, hW', hD', hP'⟩
    have y6 := k6.1
    obtain ⟨gq', lb1, lb2⟩ := sc.good.step false x
    obtain ⟨vq', hcs', hvq'⟩ := pl6.rf
    have oq' := hvq'.one
    simp only [oneCell] at oq'
    have hnb6 := (k6.get (by omega) (fun q => by
      rcases List.mem_append.1 q with r | r
      · have := hW5 _ r; omega
      · have := hD5 _ r; omega)).trans hnb
    have hwb6 := (k6.get (by omega) (fun q => by
      rcases List.mem_append.1 q with r | r
      · exact sc.wW r
      · exact sc.wD r)).trans ((k5.get hws (by simp)).trans hwat)
    have hnb6s := lt_of_get hnb6
    have hwb6s := lt_of_get hwb6
    have hgg6 : hget g6 b' = some (.cells csx es lv an) := (k6.get (by omega) (fun q => by
      rcases List.mem_append.1 q with r | r
      · have := sc.nW _ r; omega
      · have := sc.nD _ r; omega)).trans ((k5.get hgs (by simp)).trans hg)
    rw [hcs']
    simp (disch := first | omega | (simp only [newRow_size, Array.size_setIfInBounds, Array.size_push]; done) | (simp only [newRow_size, Array.size_setIfInBounds, Array.size_push]; omega)) [hnb6, oq', eqT, eqF, neT, neF, ltT, ltF, leT, leF, nltT, nltF, nleT, nleF, nneT, nneF, List.getElem?_cons_zero, List.getElem?_cons_succ, r23_9, hwb6, r23_10, r23_12, hw1]
    rw [← hcs']
    refine ih (120 - (i + 1)) _ _ (by omega) ⟨i + 1, _, _, _, _, _, _, rfl, by omega, ?_, rfl, sc.step gq' k5 pl6 k6 hW' hD' hP' (L := [g.size, g2.size]) ⟨by simp, fun c hc hn => ?_⟩ ?_ ?_⟩
    · push_cast; omega
    · simp only [List.mem_cons, not_or] at hn
      rw [set_other (fun e => hn.2.1 e.symm), set_other (fun e => hn.1 e.symm)]
    · intro c hc
      simp at hc
      rcases hc with rfl | rfl
      · exact .inr ⟨Nat.le_refl _, by omega⟩
      · exact .inl rfl
    · simp [hwb6s]
  · by_cases h1' : i < script.length
    · simp (disch := first | omega | (simp only [newRow_size, Array.size_setIfInBounds, Array.size_push]; done) | (simp only [newRow_size, Array.size_setIfInBounds, Array.size_push]; omega)) [l23_13, r23_7, hl, eqT, eqF, neT, neF, ltT, ltF, leT, leF, nltT, nltF, nleT, nleF, nneT, nneF, List.getElem?_cons_zero, List.getElem?_cons_succ, r23_14]
      refine Ans.next (knownK (F := F) (by omega) g) ?_
      rintro u h2 ⟨rfl, k2⟩
      simp (disch := first | omega | (simp only [newRow_size, Array.size_setIfInBounds, Array.size_push]; done) | (simp only [newRow_size, Array.size_setIfInBounds, Array.size_push]; omega)) []
      subst hQ
      exact Ans.of ⟨rfl, sc.kg.trans k2⟩
    · simp (disch := first | omega | (simp only [newRow_size, Array.size_setIfInBounds, Array.size_push]; done) | (simp only [newRow_size, Array.size_setIfInBounds, Array.size_push]; omega)) [l23_13, r23_7, hl, eqT, eqF, neT, neF, ltT, ltF, leT, leF, nltT, nltF, nleT, nleF, nneT, nneF, List.getElem?_cons_zero, List.getElem?_cons_succ, r23_14]
      refine Ans.next (knownK (F := F) (by omega) g) ?_
      rintro u h2 ⟨rfl, k2⟩
      simp (disch := first | omega | (simp only [newRow_size, Array.size_setIfInBounds, Array.size_push]; done) | (simp only [newRow_size, Array.size_setIfInBounds, Array.size_push]; omega)) []
      subst hQ
      exact Ans.of ⟨rfl, sc.kg.trans k2⟩

theorem f4_spec {F : Nat} (hF : 3003 ≤ F) {h : H} {ok : Nat → Prop} {v : Value} {script : List Stp} (s : SlR ok 6 (StpC ok) h v script) :
    Ans (cf F 4 [v] h) fun u h' => u = .bool true := by
  generalize hQ : (fun (u : Value) (h' : H) => u = Value.bool true) = Q
  obtain ⟨F, rfl⟩ : ∃ G, F = G + 1 := ⟨F - 1, by omega⟩
  rw [cf_step (a := a4) rfl rfl (by simp [a4])]
  simp (disch := first | omega | (simp only [newRow_size, Array.size_setIfInBounds, Array.size_push]; done) | (simp only [newRow_size, Array.size_setIfInBounds, Array.size_push]; omega)) [a4, r4_0, r4_1]
  refine Ans.next (only_spec (F := F) (by omega) 1 1 s) ?_
  rintro u h2 ⟨rfl, k2⟩
  simp (disch := first | omega | (simp only [newRow_size, Array.size_setIfInBounds, Array.size_push]; done) | (simp only [newRow_size, Array.size_setIfInBounds, Array.size_push]; omega)) []
  subst hQ
  exact Ans.of rfl

theorem f6_spec {F : Nat} (hF : 3003 ≤ F) {h : H} {ok : Nat → Prop} {v : Value} {script : List Stp} (s : SlR ok 6 (StpC ok) h v script) :
    Ans (cf F 6 [v] h) fun u h' => u = .bool true := by
  generalize hQ : (fun (u : Value) (h' : H) => u = Value.bool true) = Q
  obtain ⟨F, rfl⟩ : ∃ G, F = G + 1 := ⟨F - 1, by omega⟩
  rw [cf_step (a := a6) rfl rfl (by simp [a6])]
  simp (disch := first | omega | (simp only [newRow_size, Array.size_setIfInBounds, Array.size_push]; done) | (simp only [newRow_size, Array.size_setIfInBounds, Array.size_push]; omega)) [a6, r6_0, r6_1]
  refine Ans.next (only_spec (F := F) (by omega) 3 3 s) ?_
  rintro u h2 ⟨rfl, k2⟩
  simp (disch := first | omega | (simp only [newRow_size, Array.size_setIfInBounds, Array.size_push]; done) | (simp only [newRow_size, Array.size_setIfInBounds, Array.size_push]; omega)) []
  subst hQ
  exact Ans.of rfl

theorem f7_spec {F : Nat} (hF : 3003 ≤ F) {h : H} {ok : Nat → Prop} {v : Value} {script : List Stp} (s : SlR ok 6 (StpC ok) h v script) :
    Ans (cf F 7 [v] h) fun u h' => u = .bool true := by
  generalize hQ : (fun (u : Value) (h' : H) => u = Value.bool true) = Q
  obtain ⟨F, rfl⟩ : ∃ G, F = G + 1 := ⟨F - 1, by omega⟩
  rw [cf_step (a := a7) rfl rfl (by simp [a7])]
  simp (disch := first | omega | (simp only [newRow_size, Array.size_setIfInBounds, Array.size_push]; done) | (simp only [newRow_size, Array.size_setIfInBounds, Array.size_push]; omega)) [a7, r7_0, r7_1]
  refine Ans.next (only_spec (F := F) (by omega) 4 4 s) ?_
  rintro u h2 ⟨rfl, k2⟩
  simp (disch := first | omega | (simp only [newRow_size, Array.size_setIfInBounds, Array.size_push]; done) | (simp only [newRow_size, Array.size_setIfInBounds, Array.size_push]; omega)) []
  subst hQ
  exact Ans.of rfl

theorem f8_spec {F : Nat} (hF : 3003 ≤ F) {h : H} {ok : Nat → Prop} {v : Value} {script : List Stp} (s : SlR ok 6 (StpC ok) h v script) :
    Ans (cf F 8 [v] h) fun u h' => u = .bool true := by
  generalize hQ : (fun (u : Value) (h' : H) => u = Value.bool true) = Q
  obtain ⟨F, rfl⟩ : ∃ G, F = G + 1 := ⟨F - 1, by omega⟩
  rw [cf_step (a := a8) rfl rfl (by simp [a8])]
  simp (disch := first | omega | (simp only [newRow_size, Array.size_setIfInBounds, Array.size_push]; done) | (simp only [newRow_size, Array.size_setIfInBounds, Array.size_push]; omega)) [a8, r8_0, r8_1]
  refine Ans.next (only_spec (F := F) (by omega) 6 6 s) ?_
  rintro u h2 ⟨rfl, k2⟩
  simp (disch := first | omega | (simp only [newRow_size, Array.size_setIfInBounds, Array.size_push]; done) | (simp only [newRow_size, Array.size_setIfInBounds, Array.size_push]; omega)) []
  subst hQ
  exact Ans.of rfl

theorem f9_spec {F : Nat} (hF : 3003 ≤ F) {h : H} {ok : Nat → Prop} {v : Value} {script : List Stp} (s : SlR ok 6 (StpC ok) h v script) :
    Ans (cf F 9 [v] h) fun u h' => u = .bool true := by
  generalize hQ : (fun (u : Value) (h' : H) => u = Value.bool true) = Q
  obtain ⟨F, rfl⟩ : ∃ G, F = G + 1 := ⟨F - 1, by omega⟩
  rw [cf_step (a := a9) rfl rfl (by simp [a9])]
  simp (disch := first | omega | (simp only [newRow_size, Array.size_setIfInBounds, Array.size_push]; done) | (simp only [newRow_size, Array.size_setIfInBounds, Array.size_push]; omega)) [a9, r9_0, r9_1]
  refine Ans.next (only_spec (F := F) (by omega) 1 6 s) ?_
  rintro u h2 ⟨rfl, k2⟩
  simp (disch := first | omega | (simp only [newRow_size, Array.size_setIfInBounds, Array.size_push]; done) | (simp only [newRow_size, Array.size_setIfInBounds, Array.size_push]; omega)) []
  subst hQ
  exact Ans.of rfl

theorem f5_spec {F : Nat} (hF : 3003 ≤ F) {h : H} {ok : Nat → Prop} {v : Value} {script : List Stp} (s : SlR ok 6 (StpC ok) h v script) :
    Ans (cf F 5 [v] h) fun u h' => u = .bool true := by
  generalize hQ : (fun (u : Value) (h' : H) => u = Value.bool true) = Q
  obtain ⟨F, rfl⟩ : ∃ G, F = G + 1 := ⟨F - 1, by omega⟩
  rw [cf_step (a := a5) rfl rfl (by simp [a5])]
  simp (disch := first | omega | (simp only [newRow_size, Array.size_setIfInBounds, Array.size_push]; done) | (simp only [newRow_size, Array.size_setIfInBounds, Array.size_push]; omega)) [a5, r5_0, r5_1]
  refine Ans.next (only_spec (F := F) (by omega) 2 2 s) ?_
  rintro u h2 ⟨rfl, k2⟩
  have s2 := SlR.imp s (ok' := ok) (R' := StpC ok) (h' := h2) (fun _ _ q => q) (fun cs x _ q => StpC.imp q (fun _ _ q => q) (keep_of k2.c (by simp))) (keep_of k2.c (by simp))
  simp (disch := first | omega | (simp only [newRow_size, Array.size_setIfInBounds, Array.size_push]; done) | (simp only [newRow_size, Array.size_setIfInBounds, Array.size_push]; omega)) [eqT, eqF, neT, neF, ltT, ltF, leT, leF, nltT, nltF, nleT, nleF, nneT, nneF, List.getElem?_cons_zero, List.getElem?_cons_succ]
  refine Ans.next (only_spec (F := F) (by omega) 5 5 s2) ?_
  rintro u h3 ⟨rfl, k3⟩
  simp (disch := first | omega | (simp only [newRow_size, Array.size_setIfInBounds, Array.size_push]; done) | (simp only [newRow_size, Array.size_setIfInBounds, Array.size_push]; omega)) [eqT, eqF, neT, neF, ltT, ltF, leT, leF, nltT, nltF, nleT, nleF, nneT, nneF, List.getElem?_cons_zero, List.getElem?_cons_succ]
  subst hQ
  exact Ans.of rfl

end Go.Proofs.Ytmenfnapbggglaa
