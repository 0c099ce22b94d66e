/- ViewIsNew: the state while answers are gathered; one round. -/
import Derived.Test.YtefbpobeclkbhaaVx0
set_option linter.unusedSimpArgs false
set_option linter.unusedVariables false
namespace Go.Proofs.Ytefbpobeclkbhaa
open Go.Ev

/-- What was answered in one round: All's list, Take's, the copy, what they say. -/
structure VE where
  v : Value
  q : Nat
  nv : Value
  nq : Nat
  cw : Value
  vs : List Vw
  w : Vw

structure VE.Ok (κ : Nat → Nat) (g : H) (e : VE) : Prop where
  kq : κ e.q = 6
  kn : κ e.nq = 6
  ev : e.v = .slice (some ⟨e.q, 0, none⟩) e.vs.length e.vs.length
  hq : hget g e.q = some (.cells (vcs e.vs) 3 true [])
  en : e.nv = .slice (some ⟨e.nq, 0, none⟩) 1 1
  hn : hget g e.nq = some (.cells (noteC 22 e.w) 21 true [])
  cp : ∃ cq lv an, e.cw = .slice (some ⟨cq, 0, none⟩) e.vs.length e.vs.length ∧ hget g cq = some (.cells (vcs e.vs) 3 lv an) ∧ κ cq = 5
  ne : e.vs ≠ []
  le : e.vs.length ≤ 401

theorem VE.Ok.tr {κ κ' : Nat → Nat} {S : List Nat} {g g' : H} {e : VE} (s : e.Ok κ g) (k : Cf κ S g g') (h5 : 5 ∉ S) (h6 : 6 ∉ S) (hk : Agr g.size κ κ') : e.Ok κ' g' := by
  obtain ⟨cq, lv, an, c1, c2, c3⟩ := s.cp
  exact ⟨(hk _ (lt_of_get s.hq)).trans s.kq, (hk _ (lt_of_get s.hn)).trans s.kn, s.ev, k.get s.hq (by rw [s.kq]; exact h6), s.en, k.get s.hn (by rw [s.kn]; exact h6), ⟨cq, lv, an, c1, k.get c2 (by rw [c3]; exact h5), (hk cq (lt_of_get c2)).trans c3⟩, s.ne, s.le⟩

/-- Memory while answers are gathered. -/
structure S1 (N : Nat) (κ : Nat → Nat) (g : H) (b : Nat) (r : Option Nat) (x : Sv) (bb : Nat) (bv bn wv pv : Value) (T : List VE) : Prop where
  o : One N g b r x
  ko : ∀ c ∈ b :: r.toList, κ c = 7
  bat : hget g bb = some (.cells [bv, .slice none 0 0, bn, .slice none 0 0] 0 true [])
  kb : κ bb = 8
  rA : Bld (fun c => κ c = 1) 1 ValC g bv (T.map (·.v))
  rB : Bld (fun c => κ c = 2) 1 ValC g bn (T.map (·.nv))
  rW : Bld (fun c => κ c = 3) 1 ValC g wv (T.map (·.cw))
  rP : Bld (fun c => κ c = 4) 3 (RC Vw.cells) g pv (T.map (·.w))
  ent : ∀ e ∈ T, e.Ok κ g
  nd : (T.flatMap fun e => [e.q, e.nq]).Nodup

theorem One.tr {N : Nat} {κ : Nat → Nat} {S : List Nat} {g g' : H} {b : Nat} {r : Option Nat} {x : Sv} (o : One N g b r x) (ko : ∀ c ∈ b :: r.toList, κ c = 7) (k : Cf κ S g g') (h7 : 7 ∉ S) : One N g' b r x := by
  have hb := lt_of_get o.s.at'
  refine ⟨⟨k.get o.s.at' (by rw [ko b (by simp)]; exact h7), ?_, o.s.ne⟩, o.g, o.nb, o.nr, o.ne⟩
  have hv := o.s.vs
  cases r with
  | none => exact hv
  | some r =>
    obtain ⟨an, hg⟩ := hv
    exact ⟨an, k.get hg (by rw [ko r (by simp)]; exact h7)⟩

theorem noteC_one (k : Int) (w : Vw) : (noteC k w).all oneCell = true := rfl
theorem now_pos {N : Nat} {h : H} {b : Nat} {r : Option Nat} {x : Sv} (o : One N h b r x) : x.now.num ≠ 0 := by
  have := (o.g.now o.ne).1
  have h2 : 0 < x.vs.length := List.length_pos_iff.2 o.ne
  omega

def vIn : ACode := (.seq (.region r10_12 [1, 6, 8, 9, 10, 11, 12]) (.block 2 (.loop [1, 6, 8, 9, 10, 11, 12] l10_21)))

def vBody : ACode := (.seq (.region r10_14 [1, 6, 8, 9, 10, 11, 12, 13]) (.seq (.region r10_15 [1, 6, 8, 9, 10, 11, 12, 13, 14]) (.seq (.region r10_16 [1, 6, 8, 9, 10, 11, 12, 13, 14]) (.seq (.region r10_17 [1, 6, 8, 9, 10, 11, 12, 13]) (.seq (.region r10_18 [1, 6, 8, 9, 10, 11, 12]) (.region r10_19 [1, 6, 8, 9, 10, 11, 12]))))))
theorem l10_cut : l10_21 = (.seq (.seq (.region r10_13 [1, 6, 8, 9, 10, 11, 12, 44]) (.cond (.tmp 44) .skip (.exit 2))) (.seq (.block 3 vBody) (.region r10_20 [1, 6, 8, 9, 10, 11, 12]))) := rfl

def restN : List Value := [.int .i64 0, .int .i64 0, .int .i64 0, .int .i64 0, .int .i64 0, .int .i64 0, .int .i64 0, .int .i64 0, .int .i64 0, .slice none 0 0, .slice none 0 0, .int .i64 0, .int .i64 0, .int .i64 0, .slice none 0 0, .slice none 0 0, .slice none 0 0, .slice none 0 0, .string ⟨#[]⟩]

theorem vcs_flat (vs : List Vw) : vcs vs = (vs.map Vw.cells).flatten := by
  unfold vcs
  rw [List.flatMap_def]

theorem copy_app (g : H) {vs : List Vw} (hn : 0 < vs.length) (hm : vs.length ≤ 401) : ∃ G, appendTo (Ev.newRow g [] 3 []) 3 24 (.slice (some ⟨g.size, 0, none⟩) 0 0) vs.length (vcs vs) = some (.slice (some ⟨g.size + 1, 0, none⟩) vs.length vs.length, G) ∧ hget G (g.size + 1) = some (.cells (vcs vs) 3 true [g.size]) ∧ G.size = g.size + 2 ∧ Kept g G [] := by
  have h0 : ¬ vs.length = 0 := by omega
  have h1 : ¬ 0 + vs.length ≤ 0 := by omega
  have h2 : (0 + vs.length) * 24 ≤ 2 ^ 47 := by omega
  have hg : (Ev.newRow g [] 3 [])[g.size]? = some (.cells [] 3 true []) := by
    show (g.push _)[g.size]? = _
    simp
  refine ⟨Ev.newRow ((Ev.newRow g [] 3 []).setIfInBounds g.size (.cells [] 3 false [])) (vcs vs) 3 [g.size], ?_, by simp, by simp, ⟨by simp, fun c hc _ => ?_⟩⟩
  · simp only [appendTo, if_neg h0, if_neg h1, if_pos h2, hg]
    simp
  · rw [newRow_old (by simp; omega), set_other (by omega), newRow_old hc]

set_option maxHeartbeats 4000000 in
theorem round_spec {F : Nat} (hF : 1100 ≤ F) {N : Nat} {κ : Nat → Nat} {g : H} {b : Nat} {r : Option Nat} {x : Sv} {bb : Nat} {bv bn wv pv : Value} {T : List VE} (s : S1 N κ g b r x bb bv bn wv pv T) (hT : T.length ≤ 330) {sv : Value} {i k : Nat} {re : Env}
    {kn kr : K} {ke : Nat → K} {Q : Value → H → Prop}
    (hk : ∀ g' κ' bv' bn' wv' pv' (e : VE), S1 N κ' g' b r x bb bv' bn' wv' pv' (T ++ [e]) → e.vs = x.vs → g.size ≤ g'.size → (∀ c, c < g.size → κ c = 0 → hget g' c = hget g c) → Agr g.size κ κ' →
      Ans (kn [(1, sv), (6, .pointer (some ⟨b, 0, none⟩)), (8, .pointer (some ⟨bb, 0, none⟩)), (9, wv'), (10, pv'), (11, .int .i64 i), (12, .int .i64 k)] g' []) Q) :
    Ans (evC F (cf F) vBody kn ke kr ((1, sv) :: (6, .pointer (some ⟨b, 0, none⟩)) :: (8, .pointer (some ⟨bb, 0, none⟩)) :: (9, wv) :: (10, pv) :: (11, .int .i64 i) :: (12, .int .i64 k) :: re) g []) Q := by
  have hmax := s.o.g.len
  have hne := s.o.ne
  have hlen : 0 < x.vs.length := List.length_pos_iff.2 hne
  have hbl := s.o.s.at'
  have hbs := lt_of_get hbl
  have hbb := lt_of_get s.bat
  simp (disch := first | omega | (simp only [newRow_size, Array.size_setIfInBounds, Array.size_push]; done) | (simp only [newRow_size, Array.size_setIfInBounds, Array.size_push]; omega)) [vBody, r10_14]
  refine Ans.next (All_spec (F := F) (by omega) s.o.s (by omega)) ?_
  rintro v g1 ⟨q, rfl, hq1, zq, k1⟩
  have y1 := k1.1
  have hq1s := lt_of_get hq1
  have o1 : One N g1 b r x := s.o.frame k1
  simp (disch := first | omega | (simp only [newRow_size, Array.size_setIfInBounds, Array.size_push]; done) | (simp only [newRow_size, Array.size_setIfInBounds, Array.size_push]; omega)) [r10_15]
  refine Ans.next (Take_spec (F := F) (by omega) o1.s (by omega) (i : Int) 21 0 restN rfl) ?_
  rintro v2 g2 ⟨q2, hn2, zq2, s2, k2⟩
  have y2 := k2.1
  have hnow := now_pos s.o
  have htk : takeM x (i : Int) 21 0 = (x, some x.now) := by unfold takeM; rw [if_pos rfl, if_neg hnow]
  rw [htk] at hn2 s2
  obtain ⟨rfl, hn2g⟩ := hn2
  have hn2s := lt_of_get hn2g
  have hqb : q ∉ [b] := by simp; omega
  have hq2g := (k2.get hq1s hqb).trans hq1
  have hko := s.ko
  have hbc : κ b = 7 := hko b (by simp)
  -- All and Take
  have C0 : Cf κ [7] g g2 := (Cf.of (S := []) k1).trans (κ' := κ) (Cf.ofL (S := [7]) k2 (by intro c hc; rw [List.mem_singleton.1 hc, hbc]; simp)) (Agr.refl _ _)
  have a1 : Agr g.size κ (ext κ g.size 6) := Agr.ext (Nat.le_refl _)
  generalize hκ1 : ext κ g.size 6 = κ1 at a1
  have c6 : ∀ c, g.size ≤ c → κ1 c = 6 := fun c hc => by rw [← hκ1]; exact ext_ge hc
  have bat2 := C0.get s.bat (by rw [s.kb]; decide)
  have kb1 : κ1 bb = 8 := (a1 bb hbb).trans s.kb
  have rA2 := s.rA.tr C0 (by decide) a1
  -- the list of views' lists
  simp (disch := first | omega | (simp only [newRow_size, Array.size_setIfInBounds, Array.size_push]; done) | (simp only [newRow_size, Array.size_setIfInBounds, Array.size_push]; omega)) [r10_16, bat2, srcOf]
  refine Ans.next (rA2.rapp (t := 1) (bytes := 24) (.slice (some ⟨q, 0, none⟩) x.vs.length x.vs.length) rfl (by simp; omega)) ?_
  rintro bv' g3 ⟨rA3, CA⟩
  have y3 := CA.1
  have oA := rA3.sl.one
  have vA := rA3.sl.vc
  simp only [oneCell] at oA
  simp only [vcells] at vA
  have bat3 := CA.get bat2 (by rw [kb1]; decide)
  have bat3s := lt_of_get bat3
  simp (disch := first | omega | (simp only [newRow_size, Array.size_setIfInBounds, Array.size_push]; done) | (simp only [newRow_size, Array.size_setIfInBounds, Array.size_push]; omega)) [bat3, oA, vA]
  have a2 : Agr g2.size κ1 (ext κ1 g2.size 1) := Agr.ext (Nat.le_refl _)
  generalize hκ2 : ext κ1 g2.size 1 = κ2 at a2 rA3
  have kb2 : κ2 bb = 8 := (a2 bb (by omega)).trans kb1
  have CB : Cf κ2 [8] g3 (g3.setIfInBounds bb (.cells [bv', .slice none 0 0, bn, .slice none 0 0] 0 true [])) := ⟨by simp, fun c hc hn => set_other (fun e => hn (by rw [← e, kb2]; simp))⟩
  have bat3' : hget (g3.setIfInBounds bb (.cells [bv', .slice none 0 0, bn, .slice none 0 0] 0 true [])) bb = some (.cells [bv', .slice none 0 0, bn, .slice none 0 0] 0 true []) := by simp [bat3s]
  have z3 : (g3.setIfInBounds bb (.cells [bv', .slice none 0 0, bn, .slice none 0 0] 0 true [])).size = g3.size := by simp
  generalize g3.setIfInBounds bb (.cells [bv', .slice none 0 0, bn, .slice none 0 0] 0 true []) = g3' at CB bat3' z3 ⊢
  -- the list of notes' lists
  have rB3 := ((s.rB.tr C0 (by decide) a1).tr CA (by decide) a2).tr CB (by decide) (Agr.refl _ _)
  simp (disch := first | omega | (simp only [newRow_size, Array.size_setIfInBounds, Array.size_push]; done) | (simp only [newRow_size, Array.size_setIfInBounds, Array.size_push]; omega)) [r10_17, bat3', srcOf]
  refine Ans.next (rB3.rapp (t := 2) (bytes := 24) (.slice (some ⟨q2, 0, none⟩) 1 1) rfl (by simp; omega)) ?_
  rintro bn' g4 ⟨rB4, CC⟩
  have y4 := CC.1
  have oB := rB4.sl.one
  have vB := rB4.sl.vc
  simp only [oneCell] at oB
  simp only [vcells] at vB
  have bat4 := CC.get bat3' (by rw [kb2]; decide)
  have bat4s := lt_of_get bat4
  simp (disch := first | omega | (simp only [newRow_size, Array.size_setIfInBounds, Array.size_push]; done) | (simp only [newRow_size, Array.size_setIfInBounds, Array.size_push]; omega)) [bat4, oB, vB]
  have a3 : Agr g3'.size κ2 (ext κ2 g3'.size 2) := Agr.ext (Nat.le_refl _)
  generalize hκ3 : ext κ2 g3'.size 2 = κ3 at a3 rB4
  have kb3 : κ3 bb = 8 := (a3 bb (by omega)).trans kb2
  have CD : Cf κ3 [8] g4 (g4.setIfInBounds bb (.cells [bv', .slice none 0 0, bn', .slice none 0 0] 0 true [])) := ⟨by simp, fun c hc hn => set_other (fun e => hn (by rw [← e, kb3]; simp))⟩
  have bat4' : hget (g4.setIfInBounds bb (.cells [bv', .slice none 0 0, bn', .slice none 0 0] 0 true [])) bb = some (.cells [bv', .slice none 0 0, bn', .slice none 0 0] 0 true []) := by simp [bat4s]
  have z4 : (g4.setIfInBounds bb (.cells [bv', .slice none 0 0, bn', .slice none 0 0] 0 true [])).size = g4.size := by simp
  generalize g4.setIfInBounds bb (.cells [bv', .slice none 0 0, bn', .slice none 0 0] 0 true []) = g4' at CD bat4' z4 ⊢
  -- the copy
  have C24 : Cf κ1 ([1] ++ ([8] ++ ([2] ++ [8]))) g2 g4' := CA.trans (CB.trans (CC.trans CD a3) (Agr.refl _ _)) a2
  have hq4 := C24.get hq2g (by rw [c6 q (by omega)]; decide)
  have hq4s := lt_of_get hq4
  have hvl := vcs_length x.vs
  have hva := vcs_all x.vs
  have htk2 : (vcs x.vs).take (x.vs.length * 3) = vcs x.vs := List.take_of_length_le (by omega)
  have hle3 : x.vs.length * 3 ≤ (vcs x.vs).length := by omega
  have hlen0 : ¬ x.vs.length = 0 := by omega
  have hle4 : x.vs.length * 3 ≤ 3 * x.vs.length := by omega
  obtain ⟨g5, e5, hc5, z5, k5⟩ := copy_app g4' hlen hmax
  simp (disch := first | omega | (simp only [newRow_size, Array.size_setIfInBounds, Array.size_push]; done) | (simp only [newRow_size, Array.size_setIfInBounds, Array.size_push]; omega)) [r10_18, srcOf, hq4, hvl, hva, htk2, hle3, hle4, hlen0, hne, appV, e5]
  have CE : Cf κ3 [] g4' g5 := Cf.of k5
  have a4 : Agr g4'.size κ3 (ext κ3 g4'.size 5) := Agr.ext (Nat.le_refl _)
  have c5 : ext κ3 g4'.size 5 (g4'.size + 1) = 5 := ext_ge (by omega)
  generalize hκ4 : ext κ3 g4'.size 5 = κ4 at a4 c5
  have C05 := ((C0.trans (C24.trans CE (a2.trans a3 (by omega))) a1))
  have a04 : Agr g.size κ κ4 := a1.trans ((a2.trans a3 (by omega)).trans a4 (by omega)) (by omega)
  have rW5 := s.rW.tr C05 (by decide) a04
  refine Ans.next (rW5.rapp (t := 3) (bytes := 24) (.slice (some ⟨g4'.size + 1, 0, none⟩) x.vs.length x.vs.length) rfl (by simp; omega)) ?_
  rintro wv' g6 ⟨rW6, CF⟩
  have y6 := CF.1
  have a5 : Agr g5.size κ4 (ext κ4 g5.size 3) := Agr.ext (Nat.le_refl _)
  generalize hκ5 : ext κ4 g5.size 3 = κ5 at a5 rW6
  -- the present view
  have C26 : Cf κ1 _ g2 g6 := (C24.trans CE (a2.trans a3 (by omega))).trans CF ((a2.trans a3 (by omega)).trans a4 (by omega))
  have a15 : Agr g2.size κ1 κ5 := ((a2.trans a3 (by omega)).trans a4 (by omega)).trans a5 (by omega)
  have ko1 : ∀ c ∈ b :: r.toList, κ1 c = 7 := by
    intro c hc
    rw [a1 c ?_]
    · exact hko c hc
    · rcases List.mem_cons.1 hc with rfl | hc
      · exact hbs
      · exact s.o.ltr c (by simpa using hc)
  have o2 : One N g2 b r x := ⟨s2, s.o.g, s.o.nb, s.o.nr, s.o.ne⟩
  have o6 := o2.tr ko1 C26 (by decide)
  simp (disch := first | omega | (simp only [newRow_size, Array.size_setIfInBounds, Array.size_push]; done) | (simp only [newRow_size, Array.size_setIfInBounds, Array.size_push]; omega)) [r10_19]
  refine Ans.next (Now_spec (F := F) (by omega) o6.s (by omega)) ?_
  rintro v7 g7 ⟨rfl, k7⟩
  have y7 := k7.1
  have hnv : x.now.val = .agg ⟨[.int .i64 x.now.num, .int .i64 x.now.pri, .int .i64 x.now.bak]⟩ := rfl
  rw [hnv]
  simp (disch := first | omega | (simp only [newRow_size, Array.size_setIfInBounds, Array.size_push]; done) | (simp only [newRow_size, Array.size_setIfInBounds, Array.size_push]; omega)) [srcOf, eqT, eqF, neT, neF, ltT, ltF, leT, leF, nltT, nltF, nleT, nleF, nneT, nneF, flipX, List.getElem?_cons_zero, List.getElem?_cons_succ]
  have CG : Cf κ5 [] g6 g7 := Cf.of k7
  have a6 : Agr g6.size κ5 (ext κ5 g6.size 0) := Agr.ext (Nat.le_refl _)
  generalize hκ6 : ext κ5 g6.size 0 = κ6 at a6
  have C07 := (C05.trans CF a04).trans CG (a04.trans a5 (by omega))
  have a06 : Agr g.size κ κ6 := (a04.trans a5 (by omega)).trans a6 (by omega)
  have rP7 := s.rP.tr C07 (by decide) a06
  refine Ans.next (rP7.rapp (t := 4) (bytes := 24) x.now rfl (by simp; omega)) ?_
  rintro pv' g8 ⟨rP8, CH⟩
  have y8 := CH.1
  simp (disch := first | omega | (simp only [newRow_size, Array.size_setIfInBounds, Array.size_push]; done) | (simp only [newRow_size, Array.size_setIfInBounds, Array.size_push]; omega)) []
  have a7 : Agr g7.size κ6 (ext κ6 g7.size 4) := Agr.ext (Nat.le_refl _)
  generalize hκ7 : ext κ6 g7.size 4 = κ7 at a7 rP8
  have CGH : Cf κ5 ([] ++ [4]) g6 g8 := CG.trans CH a6
  have a57 : Agr g6.size κ5 κ7 := a6.trans a7 (by omega)
  have C58 : Cf κ4 ([3] ++ ([] ++ [4])) g5 g8 := CF.trans CGH a5
  have a47 : Agr g5.size κ4 κ7 := a5.trans a57 (by omega)
  have C48 : Cf κ3 _ g4' g8 := CE.trans C58 a4
  have a37 : Agr g4'.size κ3 κ7 := a4.trans a47 (by omega)
  have C38 : Cf κ2 _ g3' g8 := (CC.trans CD a3).trans C48 a3
  have a27 : Agr g3'.size κ2 κ7 := a3.trans a37 (by omega)
  have C28 : Cf κ1 _ g2 g8 := C26.trans CGH a15
  have a17 : Agr g2.size κ1 κ7 := a15.trans a57 (by omega)
  have C08 : Cf κ _ g g8 := C0.trans C28 a1
  have a07 : Agr g.size κ κ7 := a1.trans a17 (by omega)
  refine hk g8 κ7 bv' bn' wv' pv' ⟨.slice (some ⟨q, 0, none⟩) x.vs.length x.vs.length, q, .slice (some ⟨q2, 0, none⟩) 1 1, q2, .slice (some ⟨g4'.size + 1, 0, none⟩) x.vs.length x.vs.length, x.vs, x.now⟩ ⟨o2.tr ko1 C28 (by decide), ?_, C48.get bat4' (by rw [kb3]; decide), ?_, ?_, ?_, ?_, ?_, ?_, ?_⟩ rfl (by omega) ?_ a07
  · intro c hc
    have hcl : c < g2.size := by
      rcases List.mem_cons.1 hc with rfl | hc
      · omega
      · have := s.o.ltr c (by simpa using hc); omega
    rw [a17 c hcl]
    exact ko1 c hc
  · rw [a07 bb hbb]; exact s.kb
  · have := (rA3.tr CB (by decide) (Agr.refl _ _)).tr C38 (by decide) a27
    simpa using this
  · have := (rB4.tr CD (by decide) (Agr.refl _ _)).tr C48 (by decide) a37
    simpa using this
  · have := rW6.tr CGH (by decide) a57
    simpa using this
  · simpa using rP8
  · intro e he
    rcases List.mem_append.1 he with he | he
    · exact (s.ent e he).tr C08 (by decide) (by decide) a07
    · simp only [List.mem_singleton] at he
      subst he
      refine ⟨(a17 q (by omega)).trans (c6 q zq), (a17 q2 hn2s).trans (c6 q2 (by omega)), rfl, C28.get hq2g (by rw [c6 q zq]; decide), rfl, C28.get hn2g (by rw [c6 q2 (by omega)]; decide), ⟨g4'.size + 1, _, _, rfl, C58.get hc5 (by rw [c5]; decide), (a47 _ (by omega)).trans c5⟩, hne, hmax⟩
  · rw [List.flatMap_append, List.nodup_append]
    refine ⟨s.nd, by simp; omega, ?_⟩
    intro c hc d hd e
    subst e
    obtain ⟨e, he, hce⟩ := List.mem_flatMap.1 hc
    have h1 := lt_of_get (s.ent e he).hq
    have h2 := lt_of_get (s.ent e he).hn
    simp at hce hd
    omega
  · intro c hc h0
    exact C08.2 c hc (by rw [h0]; decide)

end Go.Proofs.Ytefbpobeclkbhaa
