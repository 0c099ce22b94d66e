/- ViewIsNew: the law. -/
import Derived.Test.YtefbpobeclkbhaaVx11
set_option linter.unusedSimpArgs false
set_option linter.unusedVariables false
namespace Go.Proofs.Ytefbpobeclkbhaa
open Go.Ev

theorem a10_cut : a10 = ⟨193, (.seq (.region r10_0 [0, 1]) (.seq (.region r10_1 [0, 1, 5]) (.seq (.seq (.region r10_2 [0, 1, 21]) (.cond (.tmp 21) (.seq (.region r10_3 [4]) .ret) .skip)) (.seq (.region r10_4 [1, 6, 7]) (.seq (.seq (.region r10_5 [1, 6, 28]) (.cond (.tmp 28) (.seq (.region r10_6 [4]) .ret) .skip)) (.seq (.region r10_7 [1, 6, 8]) (.seq (.region r10_8 [1, 6, 8, 9]) (.seq (.region r10_9 [1, 6, 8, 9, 10]) (.seq vOut (.seq vCmp (.seq (.region r10_32 [6, 8, 9, 16]) (.seq (.seq (.region r10_33 [6, 8, 9, 162]) (.cond (.tmp 162) (.seq (.region r10_34 [4]) .ret) .skip)) (.seq (.region r10_35 [6, 8, 9, 17]) (.seq (.region r10_36 [6, 8, 9, 17, 18]) (.seq (.regionD d10_37 [(16, [19])] [4]) .ret))))))))))))))), [.tmp 4]⟩ := rfl

def LastPost (v : Value) (_ : H) : Prop := v = .bool true

set_option maxHeartbeats 4000000 in
/-- Behind the comparison of all that was answered. -/
theorem vEnd_spec {F : Nat} (hF : 1100 ≤ F) (hF2 : F < 2 ^ 40) {N : Nat} {κ : Nat → Nat} {g : H} {b : Nat} {r : Option Nat} {x : Sv} {bb : Nat} {bv bn wv pv : Value} {T : List VE} (s : S1 N κ g b r x bb bv bn wv pv T) (hT2 : 2 ≤ T.length) (hT : T.length ≤ 322) {e : VE} (he : T[T.length - 1]? = some e) (hev : e.vs = x.vs) {re : Env} :
    Ans (evC F (cf F) (.seq (.region r10_32 [6, 8, 9, 16]) (.seq (.seq (.region r10_33 [6, 8, 9, 162]) (.cond (.tmp 162) (.seq (.region r10_34 [4]) .ret) .skip)) (.seq (.region r10_35 [6, 8, 9, 17]) (.seq (.region r10_36 [6, 8, 9, 17, 18]) (.seq (.regionD d10_37 [(16, [19])] [4]) .ret))))) (endK (cfX XD) [.tmp 4]) noK (endK (cfX XD) [.tmp 4])
      ((6, .pointer (some ⟨b, 0, none⟩)) :: (8, .pointer (some ⟨bb, 0, none⟩)) :: (9, wv) :: (10, pv) :: re) g []) LastPost := by
  have hgood := s.o.g.len
  have hne := s.o.ne
  -- the lists
  have hmv : T.map (·.v) = (T.map fun e => (e.q, e.vs.length)).map sv := by
    rw [List.map_map]
    exact List.map_congr_left fun e h => (s.ent e h).ev
  have hmn : T.map (·.nv) = (T.map fun e => (e.nq, 1)).map sv := by
    rw [List.map_map]
    exact List.map_congr_left fun e h => (s.ent e h).en
  have fv : (T.map fun e => (e.q, e.vs.length)).map (·.1) = T.map (·.q) := by rw [List.map_map]; rfl
  have fn : (T.map fun e => (e.nq, 1)).map (·.1) = T.map (·.nq) := by rw [List.map_map]; rfl
  have rA := s.rA
  have rB := s.rB
  rw [hmv] at rA
  rw [hmn] at rB
  have col : ∀ c, c ∈ T.map (·.q) ++ T.map (·.nq) → κ c = 6 := by
    intro c hc
    rcases List.mem_append.1 hc with hc | hc
    · obtain ⟨e, he, rfl⟩ := List.mem_map.1 hc; exact (s.ent e he).kq
    · obtain ⟨e, he, rfl⟩ := List.mem_map.1 hc; exact (s.ent e he).kn
  have nd : (T.map (·.q) ++ T.map (·.nq)).Nodup := by
    have := s.nd
    clear rA rB col hmv hmn fv fn he hT2 hT
    revert this
    generalize T = T
    intro h
    have key : ∀ T : List VE, (T.map (·.q) ++ T.map (·.nq)).Perm (T.flatMap fun e => [e.q, e.nq]) := by
      intro T
      induction T with
      | nil => exact List.Perm.refl _
      | cons a T ih =>
        simp only [List.map_cons, List.flatMap_cons, List.cons_append, List.nil_append]
        exact (List.Perm.trans List.perm_middle (List.Perm.cons _ ih)).cons _
    exact (key T).nodup_iff.2 h
  have ap := apart_spec (F := F) (okv := fun c => κ c = 1) (okn := fun c => κ c = 2) s.bat rA rB (by simp [s.kb]) (by simp [s.kb]) (by
      intro p hp
      obtain ⟨e, he, rfl⟩ := List.mem_map.1 hp
      exact ⟨_, (s.ent e he).hq, by rw [vcs_length]; omega⟩) (by
      intro p hp
      obtain ⟨e, he, rfl⟩ := List.mem_map.1 hp
      exact ⟨_, (s.ent e he).hn, rfl⟩) (by rw [fv, fn]; exact nd) (by
      rw [fv]; intro h
      have := col bb (by rw [List.mem_append]; exact .inl h)
      rw [s.kb] at this; cases this) (by
      rw [fn]; intro h
      have := col bb (by rw [List.mem_append]; exact .inr h)
      rw [s.kb] at this; cases this) (by
      intro p hp
      have : κ p.1 = 6 := col p.1 (by
        rw [← fv, ← fn, ← List.map_append]
        exact List.mem_map.2 ⟨p, hp, rfl⟩)
      rw [this]; decide) ⟨by simp; omega, by
      intro p hp
      obtain ⟨e, he, rfl⟩ := List.mem_map.1 hp
      exact (s.ent e he).le⟩ ⟨by simp; omega, by
      intro p hp
      obtain ⟨e, he, rfl⟩ := List.mem_map.1 hp
      simp⟩ (by omega) hF2
  simp (disch := first | omega | (simp only [newRow_size, Array.size_setIfInBounds, Array.size_push]; done) | (simp only [newRow_size, Array.size_setIfInBounds, Array.size_push]; omega)) [r10_32]
  refine Ans.next ap ?_
  rintro v1 g1 ⟨rfl, ⟨mv, mn, Ms, Ns, hbb1, f1, f2⟩, y1, fr⟩
  rw [fv, fn] at f1 f2 fr
  have keep : ∀ c, c < g.size → κ c ≠ 8 → κ c ≠ 6 → hget g1 c = hget g c := fun c hc h8 h6 => fr c hc (fun q => h8 (q ▸ s.kb)) (fun q => h6 (col c q))
  have o1 : One N g1 b r x := by
    refine s.o.tr (S := [6, 8]) s.ko ⟨y1, fun c hc hn => keep c hc (fun q => hn (by rw [q]; decide)) (fun q => hn (by rw [q]; decide))⟩ (by decide)
  have rW1 : Bld (fun c => κ c = 3) 1 ValC g1 wv (T.map (·.cw)) := s.rW.tr (S := [6, 8]) (κ' := κ) ⟨y1, fun c hc hn => keep c hc (fun q => hn (by rw [q]; decide)) (fun q => hn (by rw [q]; decide))⟩ (by decide) (Agr.refl _ _)
  have ec : SlV g1 e.cw e.vs := by
    obtain ⟨cq, lv, an, e1, e2, e3⟩ := (s.ent e (List.mem_of_getElem? he)).cp
    exact .inr ⟨cq, lv, an, e1, (keep cq (lt_of_get e2) (by rw [e3]; decide) (by rw [e3]; decide)).trans e2⟩
  -- whose rows the service's are not
  have okb : ∀ c ∈ [b], ¬ (g.size ≤ c ∨ κ c = 1 ∨ κ c = 2 ∨ c ∈ T.map (·.q) ++ T.map (·.nq)) := by
    intro c hc
    rw [List.mem_singleton.1 hc]
    have hkb := s.ko b (by simp)
    rintro (h | h | h | h)
    · have := lt_of_get s.o.s.at'; omega
    · rw [hkb] at h; cases h
    · rw [hkb] at h; cases h
    · rw [col b h] at hkb; cases hkb
  have hbk : bb ≠ b := by
    intro q
    have hkb := s.ko b (by simp)
    rw [← q, s.kb] at hkb
    cases hkb
  simp (disch := first | omega | (simp only [newRow_size, Array.size_setIfInBounds, Array.size_push]; done) | (simp only [newRow_size, Array.size_setIfInBounds, Array.size_push]; omega)) [r10_33, r10_35]
  refine Ans.next (All_spec (F := F) (by omega) o1.s (by omega)) ?_
  rintro v2 g2 ⟨q, rfl, hq2, zq, k2⟩
  have y2 := k2.1
  have o2 : One N g2 b r x := o1.frame k2
  simp (disch := first | omega | (simp only [newRow_size, Array.size_setIfInBounds, Array.size_push]; done) | (simp only [newRow_size, Array.size_setIfInBounds, Array.size_push]; omega)) [r10_36]
  refine Ans.next (Take_spec (F := F) (by omega) o2.s (by omega) 1 21 0 restN rfl) ?_
  rintro v3 g3 ⟨q3, hn3, zq3, s3, k3⟩
  have y3 := k3.1
  have hnow := now_pos s.o
  have htk : takeM x 1 21 0 = (x, some x.now) := by unfold takeM; rw [if_pos rfl, if_neg hnow]
  rw [htk] at hn3 s3
  obtain ⟨rfl, hn3g⟩ := hn3
  have s3' : SvAt g3 b 0 r x := s3
  have hbs := lt_of_get o1.s.at'
  have hq3 := (k3.get (lt_of_get hq2) (by simp; omega)).trans hq2
  have rW3 : Bld (fun c => κ c = 3) 1 ValC g3 wv (T.map (·.cw)) := (rW1.frame k2 (fun _ _ h => h)).kept (h' := g3) k3 (by
    intro c hc
    rw [List.mem_singleton.1 hc, s.ko b (by simp)]
    decide) (fun _ _ _ h => h)
  have ec3 : SlV g3 e.cw x.vs := by
    rw [← hev]
    rcases ec with ec | ⟨cq, lv, an, e1, e2⟩
    · exact .inl ec
    · refine .inr ⟨cq, lv, an, e1, ?_⟩
      have h2 := (k2.get (lt_of_get e2) (by simp)).trans e2
      refine (k3.get (lt_of_get h2) ?_).trans h2
      rw [List.mem_singleton]
      rintro rfl
      obtain ⟨cq', lv', an', e1', e2', e3'⟩ := (s.ent e (List.mem_of_getElem? he)).cp
      rw [e1'] at e1
      injection e1 with e1
      injection e1 with e1
      injection e1 with e1 _ _
      rw [e1] at e3'
      rw [s.ko _ (by simp)] at e3'
      cases e3'
  have l3 : SlV g3 (.slice (some ⟨q, 0, none⟩) x.vs.length x.vs.length) x.vs := .inr ⟨q, true, [], rfl, hq3⟩
  have v31 := sameViews_spec (F := F) (by omega) l3 ec3 (by omega)
  obtain ⟨bw, csw, esw, lvw, anw, ew, _, hgw, haw, hlaw⟩ := rW3.atV (i := T.length - 1) (x := e.cw) (by rw [List.getElem?_map, he]; rfl)
  rw [List.length_map] at ew
  subst ew
  have hbb3 := (k3.get (by have := lt_of_get hbb1; omega) (by rw [List.mem_singleton]; exact hbk)).trans ((k2.get (lt_of_get hbb1) (by simp)).trans hbb1)
  have hw : IntKind.i64.wrap ((T.length : Int) - 1) = ((T.length - 1 : Nat) : Int) := by rw [IntKind.wrap_i64]; omega
  have hlt : T.length - 1 < T.length := by omega
  have hTn : ¬ T = [] := by rintro rfl; simp at hT2
  have hnl : (noteC 22 x.now).length = 21 := rfl
  have htk3 : (noteC 22 x.now).take 21 = noteC 22 x.now := rfl
  have hn3s := lt_of_get hn3g
  have hgws := lt_of_get hgw
  simp (disch := first | omega | (simp only [newRow_size, Array.size_setIfInBounds, Array.size_push]; done) | (simp only [newRow_size, Array.size_setIfInBounds, Array.size_push]; omega)) [d10_37, hgw, haw, hlaw, hw, hlt, hTn, v31, hn3g, hnl, htk3, eqT, eqF, neT, neF, ltT, ltF, leT, leF, nltT, nltF, nleT, nleF, nneT, nneF, flipX, List.getElem?_cons_zero, List.getElem?_cons_succ]
  refine Ans.nextD (Now_spec (F := F) (by omega) s3' (by omega)) ?_
  rintro v4 g4 ⟨rfl, k4⟩
  have hn4 := (k4.get hn3s (by simp)).trans hn3g
  simp (disch := first | omega | (simp only [newRow_size, Array.size_setIfInBounds, Array.size_push]; done) | (simp only [newRow_size, Array.size_setIfInBounds, Array.size_push]; omega)) []
  refine Ans.nextD (bare_spec (F := F) (by omega) g4 22 x.now) ?_
  rintro v5 g5 ⟨rfl, k5⟩
  have hbb5 := (k5.get (by have := lt_of_get hbb3; have := k4.1; omega) (by simp)).trans ((k4.get (lt_of_get hbb3) (by simp)).trans hbb3)
  have f1' := (((f1.kc k2.c (by simp)).kc k3.c okb).kc k4.c (by simp)).kc k5.c (by simp)
  have f2' := (((f2.kc k2.c (by simp)).kc k3.c okb).kc k4.c (by simp)).kc k5.c (by simp)
  simp (disch := first | omega | (simp only [newRow_size, Array.size_setIfInBounds, Array.size_push]; done) | (simp only [newRow_size, Array.size_setIfInBounds, Array.size_push]; omega)) []
  refine Ans.nextD (bookStands_spec (F := F) hbb5 f1' f2' ⟨by simp; omega, ?_⟩ ⟨by simp; omega, ?_⟩ (by omega) hF2) ?_
  · intro n hm
    obtain ⟨p, hp, rfl⟩ := List.mem_map.1 hm
    obtain ⟨e, he, rfl⟩ := List.mem_map.1 hp
    exact (s.ent e he).le
  · intro n hm
    obtain ⟨p, hp, rfl⟩ := List.mem_map.1 hm
    obtain ⟨e, he, rfl⟩ := List.mem_map.1 hp
    simp
  rintro v6 g6 ⟨rfl, k6⟩
  have hsl : sameL (noteC 22 x.now) (noteC 22 x.now) = true := by
    have hemp : ((⟨#[]⟩ : ByteArray) == ⟨#[]⟩) = true := by decide
    simp [noteC, sameL, sameCell, hemp]
  simp (disch := first | omega | (simp only [newRow_size, Array.size_setIfInBounds, Array.size_push]; done) | (simp only [newRow_size, Array.size_setIfInBounds, Array.size_push]; omega)) [eqT, eqF, neT, neF, ltT, ltF, leT, leF, nltT, nltF, nleT, nleF, nneT, nneF, flipX, List.getElem?_cons_zero, List.getElem?_cons_succ, dk_go, chks_nil, chks_cons, chkA_nil, chkA_cons, chk1_no, chk1_yes, chkV_some, hAt_eq, hOf_some, hOf_none, sameV, sameL, sameCell, hn3g, hn4, hnl, htk3, hsl]
  exact Ans.of rfl

set_option maxHeartbeats 1000000 in
theorem isNew_spec {F : Nat} (hF : 1200 ≤ F) (hF2 : F < 2 ^ 40) {h : H} {v : Value} {acts : List Act} (sc : ScAt h.size h v acts) (n : Int) :
    Ans (cf F 10 [.int .i64 n, v] h) LastPost := by
  obtain ⟨F, rfl⟩ : ∃ G, F = G + 1 := ⟨F - 1, by omega⟩
  rw [cf_step (a := a10) rfl rfl (by simp [a10])]
  simp (disch := first | omega | (simp only [newRow_size, Array.size_setIfInBounds, Array.size_push]; done) | (simp only [newRow_size, Array.size_setIfInBounds, Array.size_push]; omega)) [a10_cut, r10_0, r10_1]
  refine Ans.next (begins_spec (F := F) (by omega) h) ?_
  rintro v1 h1 ⟨rfl, k1⟩
  have y1 := k1.1
  simp (disch := first | omega | (simp only [newRow_size, Array.size_setIfInBounds, Array.size_push]; done) | (simp only [newRow_size, Array.size_setIfInBounds, Array.size_push]; omega)) [r10_2, r10_4]
  by_cases hn : n < 1 ∨ 5 < n
  · rw [New_bad (by omega) h1 n hn]
    simp (disch := first | omega | (simp only [newRow_size, Array.size_setIfInBounds, Array.size_push]; done) | (simp only [newRow_size, Array.size_setIfInBounds, Array.size_push]; omega)) [r10_5, r10_6, eqT, eqF, neT, neF, ltT, ltF, leT, leF, nltT, nltF, nleT, nleF, nneT, nneF, flipX, List.getElem?_cons_zero, List.getElem?_cons_succ]
    exact Ans.of rfl
  refine Ans.next (New_spec (F := F) (by omega) h1 n (by omega) (by omega)) ?_
  rintro v2 h2 ⟨b, r, rfl, s2, zb, zr, k2⟩
  have y2 := k2.1
  simp (disch := first | omega | (simp only [newRow_size, Array.size_setIfInBounds, Array.size_push]; done) | (simp only [newRow_size, Array.size_setIfInBounds, Array.size_push]; omega)) [r10_5, r10_7, r10_8, r10_9, eqT, eqF, neT, neF, ltT, ltF, leT, leF, nltT, nltF, nleT, nleF, nneT, nneF, flipX, List.getElem?_cons_zero, List.getElem?_cons_succ]
  have sc2 := (sc.kept k1 (by simp)).kept k2 (by simp)
  have hbs := lt_of_get s2.at'
  have hrs := s2.vs.lt
  have o2 : One h.size h2 b (some r) (first n) := One.first (h1 := h1) (n := 0) s2 (by omega) (by omega) (by omega) (by omega)
  have k3 := rowKept h2 [.slice none 0 0, .slice none 0 0, .slice none 0 0, .slice none 0 0] 0 []
  have e3 : hget (Ev.newRow h2 [.slice none 0 0, .slice none 0 0, .slice none 0 0, .slice none 0 0] 0 []) h2.size = some (.cells [.slice none 0 0, .slice none 0 0, .slice none 0 0, .slice none 0 0] 0 true []) := by simp
  have y3 : (Ev.newRow h2 [.slice none 0 0, .slice none 0 0, .slice none 0 0, .slice none 0 0] 0 []).size = h2.size + 1 := by simp
  generalize Ev.newRow h2 [.slice none 0 0, .slice none 0 0, .slice none 0 0, .slice none 0 0] 0 [] = h3 at k3 e3 y3 ⊢
  have s0 : S1 h.size (fun c => if c = b ∨ c = r then 7 else if c = h2.size then 8 else 0) h3 b (some r) (first n) h2.size (.slice none 0 0) (.slice none 0 0) (.slice none 0 0) (.slice none 0 0) [] := by
    refine ⟨o2.frame k3, ?_, e3, ?_, Bld.nil _ _ _ _, Bld.nil _ _ _ _, Bld.nil _ _ _ _, Bld.nil _ _ _ _, by simp, by simp⟩
    · intro c hc
      simp at hc
      simp [hc]
    · have h1 : ¬ h2.size = b := by omega
      have h2' : ¬ h2.size = r := by omega
      simp [h1, h2']
  refine vOut_spec (F := F) (by omega) s0 ?_ (by omega) (sc2.kept k3 (by simp)) ?_
  · intro c hc
    have h1 : ¬ c = b := by omega
    have h2' : ¬ c = r := by omega
    have h3' : ¬ c = h2.size := by omega
    simp [h1, h2', h3']
  intro g4 κ4 r4 x4 bv4 bn4 wv4 pv4 T e4 s4 hT2 hT hp hlast
  obtain ⟨e, he, hev⟩ := hlast
  try simp (disch := first | omega | (simp only [newRow_size, Array.size_setIfInBounds, Array.size_push]; done) | (simp only [newRow_size, Array.size_setIfInBounds, Array.size_push]; omega)) []
  refine vCmp_spec (F := F) (by omega) s4 hT hp ?_
  intro g5 e5 k5
  have s5 : S1 h.size κ4 g5 b r4 x4 h2.size bv4 bn4 wv4 pv4 T := by
    have C : Cf κ4 [] g4 g5 := Cf.of k5
    exact ⟨s4.o.frame k5, s4.ko, C.get s4.bat (by simp), s4.kb, s4.rA.tr C (by simp) (Agr.refl _ _), s4.rB.tr C (by simp) (Agr.refl _ _), s4.rW.tr C (by simp) (Agr.refl _ _), s4.rP.tr C (by simp) (Agr.refl _ _), fun e he => (s4.ent e he).tr C (by simp) (by simp) (Agr.refl _ _), s4.nd⟩
  exact vEnd_spec (F := F) (by omega) (by omega) s5 hT2 hT he hev

end Go.Proofs.Ytefbpobeclkbhaa
