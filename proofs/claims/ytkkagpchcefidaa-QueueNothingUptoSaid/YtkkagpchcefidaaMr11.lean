/- Several texts in one: Dk25, Dk26, Dk27, Dk28, Dk29, Ev23, Qo0, Qo1, Up0. -/
import Derived.SizedLaws
import Derived.Deep.Strs
import Derived.Test.YtkkagpchcefidaaRows
import Derived.Test.YtkkagpchcefidaaMr10

/- plays. -/
set_option linter.unusedSimpArgs false
set_option linter.unusedVariables false
namespace Go.Proofs.Ytkkagpchcefidaa
open Go.Ev

theorem sameV_int (k : IntKind) (n : Int) : sameV (.int k n) (.int k n) = true := by simp [sameV, sameCell]
theorem sameV_agg (l m : List Value) : sameV (.agg ⟨l⟩) (.agg ⟨m⟩) = sameL l m := rfl

set_option maxHeartbeats 1000000 in
theorem tellC_spec {F : Nat} (hF : 17592186044440 ≤ F) {P : Nat → Prop} {g : H} {qv : Value} {q : Qm} {W : List Nat} {cs : List Value} {d : Nat} {D : List Nat} (s : PlS P g qv q W cs d D) {wb rb : Nat} {t29 : Value}
    (hwb : hget g wb = some (.cells cs 0 true [])) (hrb : hget g rb = some (.cells [.int .i64 0, .int .i64 0, .slice none 0 0] 0 true [])) (nrb : ¬ P rb ∧ rb ∉ W ∧ rb ∉ D) (nwr : ¬ rb = wb)
    {kn kr : K} {ke : Nat → K} {Q : Value → H → Prop}
    (hk : ∀ g' cs', PlDone P g qv q W d D rb cs' g' → Ans (kr [(8, .pointer (some ⟨rb, 0, none⟩)), (9, .bool true)] g' []) Q) :
    Ans (evC F (cf F) tellC kn ke kr [(0, qv), (5, .pointer (some ⟨wb, 0, none⟩)), (8, .pointer (some ⟨rb, 0, none⟩)), (188, t29)] g []) Q := by
  have hwbs := lt_of_get hwb
  have hrbs := lt_of_get hrb
  obtain ⟨vq, hcs, hvq⟩ := s.rf
  have oq := hvq.one
  simp only [oneCell] at oq
  have sq := hvq.same
  have hln := hvq.len
  have sv := SlR.sameV hvq
  rw [hcs] at hwb
  simp (disch := first | omega | (simp only [newRow_size, Array.size_setIfInBounds, Array.size_push]; done) | (simp only [newRow_size, Array.size_setIfInBounds, Array.size_push]; omega)) [tellC, d19_41, dk_go, chks_nil, chks_cons, chkA_nil, chkA_cons, chk1_no, chk1_yes, chkV_some, hAt_eq, hOf_some, hOf_none, sameL, hwb, hrb, oq, eqT, eqF, neT, neF, ltT, ltF, leT, leF, nltT, nltF, nleT, nleF, nneT, nneF, List.getElem?_cons_zero, List.getElem?_cons_succ, sq, sv, sameCell_int, sameV_int, sameV_agg, hln, s.qs.len_eq (F := F) (by omega), s.qs.last_eq (F := F) (by omega), nwr]
  subst hcs
  exact hk _ _ (PlDone.of s (Moves.refl _ _) (fun c hc => .inl hc) hrbs hrbs nrb)

def Stp.Small (x : Stp) : Prop := (x.chgs.length ≤ 1048576 ∧ ∀ t ∈ x.chgs, t.tags.length ≤ 1048576) ∧ x.prts.length ≤ 1048576 ∧ ∀ t ∈ x.prts, t.nodes.length ≤ 1048576

def PlayP (P : Nat → Prop) (h : H) (qv : Value) (q' : Qm) (W : List Nat) (d : Nat) (D : List Nat) (u : Value) (h' : H) : Prop :=
  ∃ cs' D' P', u = .tuple ⟨[.agg ⟨cs'⟩, .bool true]⟩ ∧ PlS P' h' qv q' W cs' d D' ∧ Kept h h' (W ++ D) ∧ (∀ c ∈ D', c ∈ D ∨ h.size ≤ c) ∧ (∀ c, P' c → P c ∨ h.size ≤ c)

set_option maxHeartbeats 2000000 in
theorem plays_spec {F : Nat} (hF : 17592186044441 ≤ F) {P OL : Nat → Prop} {h : H} {qv : Value} {q : Qm} {W : List Nat} {cs : List Value} {d : Nat} {D : List Nat} (s : PlS P h qv q W cs d D) (gq : q.Good) (shq : ShortI q.items) {xcs : List Value} {x : Stp}
    (sx : StpC OL h xcs x) (hOL : ∀ c ∈ W ++ D, ¬ OL c) (hx : x.Small) :
    Ans (cf F 19 [qv, .agg ⟨cs⟩, .agg ⟨xcs⟩, .pointer (some ⟨d, 0, none⟩)] h) (PlayP P h qv (stepM q x) W d D) := by
  generalize hQ : PlayP P h qv (stepM q x) W d D = Q
  obtain ⟨F, rfl⟩ : ∃ G, F = G + 1 := ⟨F - 1, by omega⟩
  rw [cf_step (a := a19) rfl rfl (by simp [a19]), a19_cut]
  obtain ⟨vc, vp, rfl, slc, slp⟩ := sx
  have oc := slc.one
  have op := slp.one
  obtain ⟨vq, hcs, hvq⟩ := s.rf
  have oq := hvq.one
  simp only [oneCell] at oc op oq
  have hlen3 : cs.length = 3 := by rw [hcs]; rfl
  have hWl := s.qs.lt
  have hDl := s.dk.lt
  rw [hcs]
  simp (disch := first | omega | (simp only [newRow_size, Array.size_setIfInBounds, Array.size_push]; done) | (simp only [newRow_size, Array.size_setIfInBounds, Array.size_push]; omega)) [r19_0, oc, op, oq]
  rw [← hcs]
  generalize hzz : [Value.int .i64 0, .int .i64 0, .slice none 0 0] = zz
  generalize hxx : [Value.int .i64 x.kind, .int .i64 x.on, .int .i64 x.stamp, vc, vp] = xx
  have hwb : hget (Ev.newRow (Ev.newRow (Ev.newRow h cs 0 []) xx 0 []) zz 0 []) h.size = some (.cells cs 0 true []) := by simp (disch := first | omega | (simp only [newRow_size, Array.size_setIfInBounds, Array.size_push]; done) | (simp only [newRow_size, Array.size_setIfInBounds, Array.size_push]; omega)) []
  have hsb : hget (Ev.newRow (Ev.newRow (Ev.newRow h cs 0 []) xx 0 []) zz 0 []) (h.size + 1) = some (.cells xx 0 true []) := by simp (disch := first | omega | (simp only [newRow_size, Array.size_setIfInBounds, Array.size_push]; done) | (simp only [newRow_size, Array.size_setIfInBounds, Array.size_push]; omega)) []
  have hrb : hget (Ev.newRow (Ev.newRow (Ev.newRow h cs 0 []) xx 0 []) zz 0 []) (h.size + 2) = some (.cells zz 0 true []) := by simp (disch := first | omega | (simp only [newRow_size, Array.size_setIfInBounds, Array.size_push]; done) | (simp only [newRow_size, Array.size_setIfInBounds, Array.size_push]; omega)) []
  have k0 : Kept h (Ev.newRow (Ev.newRow (Ev.newRow h cs 0 []) xx 0 []) zz 0 []) [] := ((rowKept _ _ _ _).trans (rowKept _ _ _ _)).trans (rowKept _ _ _ _)
  generalize Ev.newRow (Ev.newRow (Ev.newRow h cs 0 []) xx 0 []) zz 0 [] = g at hwb hsb hrb k0 ⊢
  subst hzz hxx
  have y0 := k0.1
  have hwbs := lt_of_get hwb
  have hsbs := lt_of_get hsb
  have hrbs := lt_of_get hrb
  have sg := s.kept k0 (by simp)
  have hnew : ∀ c, h.size ≤ c → ¬ P c ∧ c ∉ W ∧ c ∉ D := fun c hc => ⟨fun q => by have := s.plt c q; omega, fun q => by have := hWl c q; omega, fun q => by have := hDl c q; omega⟩
  have slc' := SlTgd.imp slc (ok' := OL) (fun _ _ q => q) (keep_of k0.c (by simp))
  have slp' := SlPrt.imp slp (ok' := OL) (fun _ _ q => q) (keep_of k0.c (by simp))
  have fin : ∀ (q' : Qm) g' cs', q' = stepM q x → PlDone P g qv q' W d D (h.size + 2) cs' g' → Ans (endK (cfX XD) [.cellN 8 3, .tmp 9] [(8, .pointer (some ⟨h.size + 2, 0, none⟩)), (9, .bool true)] g' []) Q := by
    rintro q' g' cs' rfl ⟨D', P', e1, e2, e3, e4, e5⟩
    obtain ⟨v', hcs', hv'⟩ := e2.rf
    have o' := hv'.one
    simp only [oneCell] at o'
    have e1' := e1
    rw [hcs'] at e1'
    have e1s := lt_of_get e1'
    simp (disch := first | omega | (simp only [newRow_size, Array.size_setIfInBounds, Array.size_push]; done) | (simp only [newRow_size, Array.size_setIfInBounds, Array.size_push]; omega)) [e1', o']
    subst hQ
    rw [← hcs']
    refine Ans.of ⟨cs', D', P', rfl, e2, ?_, ?_, ?_⟩
    · refine ⟨by have := e3.1; omega, fun c hc hn => (e3.get (by omega) ?_).trans (k0.get hc (by simp))⟩
      simp only [List.mem_cons, not_or]
      exact ⟨by omega, hn⟩
    · intro c hc
      rcases e4 c hc with r | r
      · exact .inl r
      · exact .inr (by omega)
    · intro c hc
      rcases e5 c hc with r | r
      · exact .inl r
      · exact .inr (by omega)
  by_cases h1 : x.kind = 1
  · have hm : stepM q x = (putM q x.stamp x.chgs).2 := by unfold stepM; rw [if_pos h1]
    simp (disch := first | omega | (simp only [newRow_size, Array.size_setIfInBounds, Array.size_push]; done) | (simp only [newRow_size, Array.size_setIfInBounds, Array.size_push]; omega)) [r19_1, hsb, r19_2, h1, eqT, eqF, neT, neF, ltT, ltF, leT, leF, nltT, nltF, nleT, nleF, nneT, nneF, List.getElem?_cons_zero, List.getElem?_cons_succ]
    exact putC_spec (F := F) (by omega) sg gq hwb (by rw [← h1]; exact hsb) hrb (hnew _ (by omega)) (hnew _ (by omega)) slc' hOL hx.1.1 hx.1.2 (fun g' cs' p => fin _ g' cs' hm.symm p)
  by_cases h2 : x.kind = 2
  · have hm : stepM q x = (collM q x.stamp x.prts).2 := by unfold stepM; rw [if_neg h1, if_pos h2]
    simp (disch := first | omega | (simp only [newRow_size, Array.size_setIfInBounds, Array.size_push]; done) | (simp only [newRow_size, Array.size_setIfInBounds, Array.size_push]; omega)) [r19_1, hsb, r19_2, h2, eqT, eqF, neT, neF, ltT, ltF, leT, leF, nltT, nltF, nleT, nleF, nneT, nneF, List.getElem?_cons_zero, List.getElem?_cons_succ, r19_18]
    exact collC_spec (F := F) (by omega) sg gq hwb (by rw [← h2]; exact hsb) hrb (hnew _ (by omega)) (hnew _ (by omega)) slp' hOL hx.2.1 hx.2.2 (fun g' cs' p => fin _ g' cs' hm.symm p)
  by_cases h3 : x.kind = 3
  · have hm : stepM q x = q := by unfold stepM; rw [if_neg h1, if_neg h2, if_neg (by omega)]
    simp (disch := first | omega | (simp only [newRow_size, Array.size_setIfInBounds, Array.size_push]; done) | (simp only [newRow_size, Array.size_setIfInBounds, Array.size_push]; omega)) [r19_1, hsb, r19_2, h3, eqT, eqF, neT, neF, ltT, ltF, leT, leF, nltT, nltF, nleT, nleF, nneT, nneF, List.getElem?_cons_zero, List.getElem?_cons_succ, r19_18, r19_34]
    exact nextC_spec (F := F) (by omega) sg gq shq hwb (by rw [← h3]; exact hsb) hrb (hnew _ (by omega)).2.1 (hnew _ (by omega)).2.1 (hnew _ (by omega)) (by omega) (by omega) (fun g' cs' p => fin _ g' cs' hm.symm p)
  by_cases h4 : x.kind = 4
  · have hm : stepM q x = (tookM q x.stamp).2 := by unfold stepM; rw [if_neg h1, if_neg h2, if_pos h4]
    simp (disch := first | omega | (simp only [newRow_size, Array.size_setIfInBounds, Array.size_push]; done) | (simp only [newRow_size, Array.size_setIfInBounds, Array.size_push]; omega)) [r19_1, hsb, r19_2, h4, eqT, eqF, neT, neF, ltT, ltF, leT, leF, nltT, nltF, nleT, nleF, nneT, nneF, List.getElem?_cons_zero, List.getElem?_cons_succ, r19_18, r19_34, r19_37]
    exact tookC_spec (F := F) (by omega) sg gq hwb (by rw [← h4]; exact hsb) hrb (hnew _ (by omega)).2.1 (hnew _ (by omega)).2.1 (hnew _ (by omega)) (by omega) (by omega) (fun g' cs' p => fin _ g' cs' hm.symm p)
  have hm : stepM q x = q := by unfold stepM; rw [if_neg h1, if_neg h2, if_neg h4]
  by_cases h5 : x.kind = 5
  · simp (disch := first | omega | (simp only [newRow_size, Array.size_setIfInBounds, Array.size_push]; done) | (simp only [newRow_size, Array.size_setIfInBounds, Array.size_push]; omega)) [r19_1, hsb, r19_2, h5, eqT, eqF, neT, neF, ltT, ltF, leT, leF, nltT, nltF, nleT, nleF, nneT, nneF, List.getElem?_cons_zero, List.getElem?_cons_succ, r19_18, r19_34, r19_37, r19_40]
    exact tellC_spec (F := F) (by omega) sg hwb hrb (hnew _ (by omega)) (by omega) (fun g' cs' p => fin _ g' cs' hm.symm p)
  · have hwb' := hwb
    rw [hcs] at hwb'
    simp (disch := first | omega | (simp only [newRow_size, Array.size_setIfInBounds, Array.size_push]; done) | (simp only [newRow_size, Array.size_setIfInBounds, Array.size_push]; omega)) [r19_1, hsb, r19_2, h1, h2, h3, h4, h5, eqT, eqF, neT, neF, ltT, ltF, leT, leF, nltT, nltF, nleT, nleF, nneT, nneF, List.getElem?_cons_zero, List.getElem?_cons_succ, r19_18, r19_34, r19_37, r19_40, r19_42, hwb', hrb, oq]
    rw [← hcs]
    exact fin q _ cs hm.symm (PlDone.of sg (Moves.refl _ _) (fun c hc => .inl hc) hrbs hrbs (hnew _ (by omega)))

end Go.Proofs.Ytkkagpchcefidaa

/- only: a script on a new queue. -/
set_option linter.unusedSimpArgs false
set_option linter.unusedVariables false
namespace Go.Proofs.Ytkkagpchcefidaa
open Go.Ev

theorem Stp.Small.short {x : Stp} (h : x.Small) : x.Short := ⟨⟨by have := h.1.1; omega, fun t ht => by have := h.1.2 t ht; omega⟩, by have := h.2.1; omega, fun t ht => by have := h.2.2 t ht; omega⟩

theorem desk_new {h : H} {d : Nat} (hd : hget h d = some (.cells [.slice none 0 0, .slice none 0 0, .slice none 0 0, .slice none 0 0] 0 true [])) : DeskS h d [d] :=
  ⟨_, _, _, _, [], [], hd, ⟨⟨_, _, _, _, _, _, _, Half.new 1 h, rfl⟩, by simp, lt_of_get hd⟩, ⟨⟨_, _, _, _, _, _, _, Half.new 3 h, rfl⟩, by simp, lt_of_get hd⟩, rfl, by simp⟩

/-- A queue in a script, with the document's queue in a block of its own; all of it newer than h. -/
structure Sc (h : H) (P : Nat → Prop) (g : H) (qv : Value) (q : Qm) (W : List Nat) (cs : List Value) (d : Nat) (D : List Nat) (wb : Nat) : Prop where
  pl : PlS P g qv q W cs d D
  good : q.Good
  short : ShortI q.items
  wat : hget g wb = some (.cells cs 0 true [])
  wP : ¬ P wb
  wW : wb ∉ W
  wD : wb ∉ D
  kg : Kept h g []
  nW : ∀ c ∈ W, h.size ≤ c
  nD : ∀ c ∈ D, h.size ≤ c
  nw : h.size ≤ wb

/-- What is left behind a step: the answer lies in nb, and then in wb. -/
theorem Sc.step {h g g1 g2 g4 : H} {P : Nat → Prop} {qv : Value} {q q' : Qm} {W : List Nat} {cs : List Value} {d : Nat} {D : List Nat} {wb : Nat} (s : Sc h P g qv q W cs d D wb) (hq : q'.Good) (hsh : ShortI q'.items)
    (k1 : Kept g g1 []) {cs' : List Value} {D' : List Nat} {P' : Nat → Prop} (pl : PlS P' g2 qv q' W cs' d D') (k2 : Kept g1 g2 (W ++ D)) (hD' : ∀ c ∈ D', c ∈ D ∨ g1.size ≤ c) (hP' : ∀ c, P' c → P c ∨ g1.size ≤ c)
    {L : List Nat} (k4 : Kept g2 g4 L) (hL : ∀ c ∈ L, c = wb ∨ (g.size ≤ c ∧ c < g1.size)) (hw : hget g4 wb = some (.cells cs' 0 true [])) : Sc h P' g4 qv q' W cs' d D' wb := by
  have y0 := s.kg.1
  have y1 := k1.1
  have y2 := k2.1
  have y4 := k4.1
  have hwl := lt_of_get s.wat
  have hWl := s.pl.qs.lt
  have hDl := s.pl.dk.lt
  have hL2 : ∀ c ∈ L, c ∉ W ∧ c ∉ D' ∧ ¬ P' c := by
    intro c hc
    rcases hL c hc with rfl | ⟨r1, r2⟩
    · refine ⟨s.wW, fun q => ?_, fun q => ?_⟩
      · rcases hD' _ q with r | r
        · exact s.wD r
        · omega
      · rcases hP' _ q with r | r
        · exact s.wP r
        · omega
    · refine ⟨fun q => by have := hWl _ q; omega, fun q => ?_, fun q => ?_⟩
      · rcases hD' _ q with r | r
        · have := hDl _ r; omega
        · omega
      · rcases hP' _ q with r | r
        · have := s.pl.plt _ r; omega
        · omega
  refine ⟨pl.kept k4 hL2, hq, hsh, hw, ?_, s.wW, ?_, ⟨by omega, fun c hc _ => ?_⟩, s.nW, ?_, s.nw⟩
  · intro q
    rcases hP' _ q with r | r
    · exact s.wP r
    · omega
  · intro q
    rcases hD' _ q with r | r
    · exact s.wD r
    · omega
  · have a1 : c ∉ L := fun q => by
      have := s.nw
      rcases hL c q with rfl | ⟨r1, r2⟩ <;> omega
    have a2 : c ∉ W ++ D := fun q => by
      rcases List.mem_append.1 q with r | r
      · have := s.nW c r; omega
      · have := s.nD c r; omega
    exact (k4.get (by omega) a1).trans ((k2.get (by omega) a2).trans ((k1.get (by omega) (by simp)).trans (s.kg.get hc (by simp))))
  · intro c hc
    rcases hD' c hc with r | r
    · exact s.nD c r
    · omega

set_option maxHeartbeats 1000000 in
theorem only_spec {F : Nat} (hF : 17592186044442 ≤ F) {h : H} (room begin' lo hi : Int) {v : Value} {script : List Stp} (s : SlR (fun b => b < h.size) 5 (StpC (fun b => b < h.size)) h v script) (hs : ∀ x ∈ script, x.Small) :
    Ans (cf F 14 [.int .i64 room, .int .i64 begin', v, .int .i64 lo, .int .i64 hi] h) fun u h' => u = .bool true := by
  generalize hQ : (fun (u : Value) (h' : H) => u = Value.bool true) = Q
  obtain ⟨F, rfl⟩ : ∃ G, F = G + 1 := ⟨F - 1, by omega⟩
  rw [cf_step (a := a14) rfl rfl (by simp [a14])]
  have hl := s.len
  simp (disch := first | omega | (simp only [newRow_size, Array.size_setIfInBounds, Array.size_push]; done) | (simp only [newRow_size, Array.size_setIfInBounds, Array.size_push]; omega)) [a14, r14_0, r14_1]
  refine Ans.next (refNew_spec (F := F) (by omega) (fun _ => False) h room begin') ?_
  rintro u g1 ⟨cs1, rfl, rf1, k1⟩
  obtain ⟨v1, hcs1, hv1⟩ := rf1
  have ov1 := hv1.one
  simp only [oneCell] at ov1
  subst hcs1
  have y1 := k1.1
  simp (disch := first | omega | (simp only [newRow_size, Array.size_setIfInBounds, Array.size_push]; done) | (simp only [newRow_size, Array.size_setIfInBounds, Array.size_push]; omega)) [ov1, eqT, eqF, neT, neF, ltT, ltF, leT, leF, nltT, nltF, nleT, nleF, nneT, nneF, List.getElem?_cons_zero, List.getElem?_cons_succ, r14_2]
  have rf1 : RefC (fun _ => False) g1 [.int .i64 (newM room begin').2.room, .int .i64 (newM room begin').2.last, v1] (newM room begin').2 := ⟨v1, rfl, hv1⟩
  generalize hcsE : [Value.int .i64 (newM room begin').2.room, .int .i64 (newM room begin').2.last, v1] = cs1 at rf1 ⊢
  have hwb2 : hget (Ev.newRow g1 cs1 0 []) g1.size = some (.cells cs1 0 true []) := by simp
  have k2 := rowKept g1 cs1 0 []
  generalize Ev.newRow g1 cs1 0 [] = g2 at hwb2 k2 ⊢
  have y2 := k2.1
  by_cases hroom : room < 1 ∨ 32 < room
  · have hn : (newM room begin').1 = 1 := by unfold newM; rw [if_pos hroom]
    simp (disch := first | omega | (simp only [newRow_size, Array.size_setIfInBounds, Array.size_push]; done) | (simp only [newRow_size, Array.size_setIfInBounds, Array.size_push]; omega)) [New_bad1 (F := F) (by omega) g2 room begin' hroom, r14_3, num_eq (F := F) (by omega), hn, eqT, eqF, neT, neF, ltT, ltF, leT, leF, nltT, nltF, nleT, nleF, nneT, nneF, List.getElem?_cons_zero, List.getElem?_cons_succ, r14_5, r14_6]
    refine Ans.next (known_spec (F := F) (by omega) g2) ?_
    rintro u h2 ⟨rfl, k2⟩
    simp (disch := first | omega | (simp only [newRow_size, Array.size_setIfInBounds, Array.size_push]; done) | (simp only [newRow_size, Array.size_setIfInBounds, Array.size_push]; omega)) []
    subst hQ
    exact Ans.of rfl
  by_cases hbeg : begin' < 0 ∨ 2147483647 < begin'
  · have hn : (newM room begin').1 = 3 := by unfold newM; rw [if_neg hroom, if_pos hbeg]
    simp (disch := first | omega | (simp only [newRow_size, Array.size_setIfInBounds, Array.size_push]; done) | (simp only [newRow_size, Array.size_setIfInBounds, Array.size_push]; omega)) [New_bad2 (F := F) (by omega) g2 room begin' (by omega) (by omega) hbeg, r14_3, num_eq (F := F) (by omega), hn, eqT, eqF, neT, neF, ltT, ltF, leT, leF, nltT, nltF, nleT, nleF, nneT, nneF, List.getElem?_cons_zero, List.getElem?_cons_succ, r14_5, r14_6]
    refine Ans.next (known_spec (F := F) (by omega) g2) ?_
    rintro u h2 ⟨rfl, k2⟩
    simp (disch := first | omega | (simp only [newRow_size, Array.size_setIfInBounds, Array.size_push]; done) | (simp only [newRow_size, Array.size_setIfInBounds, Array.size_push]; omega)) []
    subst hQ
    exact Ans.of rfl
  have hn : newM room begin' = (0, Qm.new room begin') := by unfold newM; rw [if_neg hroom, if_neg hbeg]
  rw [hn] at rf1 ⊢
  refine Ans.next (New_spec (F := F) (by omega) g2 room begin' (by omega) (by omega) (by omega) (by omega)) ?_
  rintro u g3 ⟨b, r, rfl, s1, zb, zr, hb, hr, hbr, k3⟩
  have sQ := s1 (fun _ => False) (by simp) (by simp)
  have y3 := k3.1
  simp (disch := first | omega | (simp only [newRow_size, Array.size_setIfInBounds, Array.size_push]; done) | (simp only [newRow_size, Array.size_setIfInBounds, Array.size_push]; omega)) [r14_3, num_eq (F := F) (by omega), eqT, eqF, neT, neF, ltT, ltF, leT, leF, nltT, nltF, nleT, nleF, nneT, nneF, List.getElem?_cons_zero, List.getElem?_cons_succ, r14_5, r14_7, r14_8]
  have hd4 : hget (Ev.newRow g3 [.slice none 0 0, .slice none 0 0, .slice none 0 0, .slice none 0 0] 0 []) g3.size = some (.cells [.slice none 0 0, .slice none 0 0, .slice none 0 0, .slice none 0 0] 0 true []) := by simp
  have k4 := rowKept g3 [.slice none 0 0, .slice none 0 0, .slice none 0 0, .slice none 0 0] 0 []
  generalize Ev.newRow g3 [.slice none 0 0, .slice none 0 0, .slice none 0 0, .slice none 0 0] 0 [] = g4 at hd4 k4 ⊢
  have y4 := k4.1
  have hwbs := lt_of_get hwb2
  have sc0 : Sc h (fun _ => False) g4 (.pointer (some ⟨b, 0, none⟩)) (Qm.new room begin') (b :: (some r).toList) cs1 g3.size [g3.size] g1.size := by
    refine ⟨⟨.inr ⟨b, some r, 0, rfl, sQ.frame k4, rfl⟩, rf1.imp (fun _ _ q => q) (fun _ _ q => q.elim), desk_new hd4, by simp, ?_, fun c q => q.elim⟩, Qm.Good.new (by omega) (by omega) (by omega) (by omega), by simp [Qm.new, ShortI], (k3.trans k4).get hwbs (by simp) |>.trans hwb2, by simp, ?_, ?_, ((k1.trans k2).trans k3).trans k4, ?_, ?_, y1⟩
    · intro c hc
      simp at hc
      subst hc
      simp; omega
    · simp; omega
    · simp; omega
    · intro c hc
      simp at hc
      omega
    · intro c hc
      simp at hc
      omega
  refine loop_rule (fun m e g => ∃ (i : Nat) (P : Nat → Prop) (q : Qm) (W : List Nat) (cs : List Value) (D : List Nat), m = 150 - i ∧ i ≤ 150 ∧ e = [(2, v), (3, .int .i64 lo), (4, .int .i64 hi), (11, .pointer (some ⟨g1.size, 0, none⟩)), (13, .pointer (some ⟨b, 0, none⟩)), (15, .pointer (some ⟨g3.size, 0, none⟩)), (16, .int .i64 i)] ∧ Sc h P g (.pointer (some ⟨b, 0, none⟩)) q W cs g3.size D g1.size) ?_ _ 150 _ _ (by omega) ⟨0, _, _, _, _, _, by omega, by omega, rfl, sc0⟩
  clear sc0
  rintro m e g again ⟨i, P, q, W, cs, D, rfl, hi150, rfl, sc⟩ ih
  have hw1 : IntKind.i64.wrap ((i : Int) + 1) = ((i + 1 : Nat) : Int) := by rw [wrap_id (by omega) (by omega)]; rfl
  by_cases hlt : i < script.length ∧ i < 150
  · obtain ⟨x, hx⟩ : ∃ x, script[i]? = some x := ⟨_, List.getElem?_eq_getElem hlt.1⟩
    have sg := SlR.imp s (ok' := fun b => b < h.size) (R' := StpC (fun b => b < h.size)) (h' := g) (fun _ _ q => q) (fun cs x _ q => StpC.imp q (fun _ _ q => q) (keep_of sc.kg.c (by simp))) (keep_of sc.kg.c (by simp))
    obtain ⟨b', o, c, csx, es, lv, an, rfl, hk, hg, hle, hx5⟩ := sg.at' hx
    have hcl : ((csx.drop (o + i * 5)).take 5).length = 5 := by simp; omega
    obtain ⟨vq, hcs, hvq⟩ := sc.pl.rf
    have oq := hvq.one
    simp only [oneCell] at oq
    have hwat := sc.wat
    rw [hcs] at hwat
    have hgs := lt_of_get hg
    have hws := lt_of_get hwat
    simp (disch := first | omega | (simp only [newRow_size, Array.size_setIfInBounds, Array.size_push]; done) | (simp only [newRow_size, Array.size_setIfInBounds, Array.size_push]; omega)) [l14_15, r14_9, hg, hl, eqT, eqF, neT, neF, ltT, ltF, leT, leF, nltT, nltF, nleT, nleF, nneT, nneF, List.getElem?_cons_zero, List.getElem?_cons_succ, d14_10, hwat, oq]
    rw [← hcs]
    have hxs := hs x (List.mem_of_getElem? hx)
    have k5 := rowKept g [.int .i64 0, .int .i64 0, .slice none 0 0] 0 []
    have hnb : hget (Ev.newRow g [.int .i64 0, .int .i64 0, .slice none 0 0] 0 []) g.size = some (.cells [.int .i64 0, .int .i64 0, .slice none 0 0] 0 true []) := by simp
    have z5 : (Ev.newRow g [.int .i64 0, .int .i64 0, .slice none 0 0] 0 []).size = g.size + 1 := by simp
    generalize Ev.newRow g [.int .i64 0, .int .i64 0, .slice none 0 0] 0 [] = g5 at k5 hnb z5 ⊢
    have hx6 := StpC.imp hx5 (ok' := fun b => b < h.size) (fun _ _ q => q) (keep_of k5.c (by simp))
    have hW5 := sc.pl.qs.lt
    have hD5 := sc.pl.dk.lt
    refine Ans.nextE (plays_spec (F := F) (by omega) (sc.pl.kept k5 (by simp)) sc.good sc.short hx6 ?_ hxs) ?_
    · intro c hc
      rcases List.mem_append.1 hc with r | r
      · have := sc.nW c r; omega
      · have := sc.nD c r; omega
    rintro u g6 ⟨cs', D', P', rfl, pl6, k6, hD', hP'⟩
    have y6 := k6.1
    have gq' := sc.good.step x
    have sh' := stepM_short sc.short sc.good x hxs.short
    obtain ⟨vq', hcs', hvq'⟩ := pl6.rf
    have oq' := hvq'.one
    simp only [oneCell] at oq'
    have hnb6 := (k6.get (by omega) (fun q => by
      rcases List.mem_append.1 q with r | r
      · have := hW5 _ r; omega
      · have := hD5 _ r; omega)).trans hnb
    have hwb6 := (k6.get (by omega) (fun q => by
      rcases List.mem_append.1 q with r | r
      · exact sc.wW r
      · exact sc.wD r)).trans ((k5.get hws (by simp)).trans hwat)
    have hnb6s := lt_of_get hnb6
    have hwb6s := lt_of_get hwb6
    have hgg6 : hget g6 b' = some (.cells csx es lv an) := (k6.get (by omega) (fun q => by
      rcases List.mem_append.1 q with r | r
      · have := sc.nW _ r; omega
      · have := sc.nD _ r; omega)).trans ((k5.get hgs (by simp)).trans hg)
    rw [hcs']
    simp (disch := first | omega | (simp only [newRow_size, Array.size_setIfInBounds, Array.size_push]; done) | (simp only [newRow_size, Array.size_setIfInBounds, Array.size_push]; omega)) [hnb6, oq', eqT, eqF, neT, neF, ltT, ltF, leT, leF, nltT, nltF, nleT, nleF, nneT, nneF, List.getElem?_cons_zero, List.getElem?_cons_succ, r14_11, hwb6, r14_12, r14_14, hw1]
    rw [← hcs']
    refine ih (150 - (i + 1)) _ _ (by omega) ⟨i + 1, _, _, _, _, _, rfl, by omega, rfl, sc.step gq' sh' k5 pl6 k6 hD' hP' (L := [g.size, g1.size]) ⟨by simp, fun c hc hn => ?_⟩ ?_ ?_⟩
    · simp only [List.mem_cons, not_or] at hn
      rw [set_other (fun e => hn.2.1 e.symm), set_other (fun e => hn.1 e.symm)]
    · intro c hc
      simp at hc
      rcases hc with rfl | rfl
      · exact .inr ⟨Nat.le_refl _, by omega⟩
      · exact .inl rfl
    · simp [hwb6s]
  · by_cases h1' : i < script.length
    · simp (disch := first | omega | (simp only [newRow_size, Array.size_setIfInBounds, Array.size_push]; done) | (simp only [newRow_size, Array.size_setIfInBounds, Array.size_push]; omega)) [l14_15, r14_9, hl, eqT, eqF, neT, neF, ltT, ltF, leT, leF, nltT, nltF, nleT, nleF, nneT, nneF, List.getElem?_cons_zero, List.getElem?_cons_succ, r14_16]
      refine Ans.next (known_spec (F := F) (by omega) g) ?_
      rintro u h2 ⟨rfl, k2⟩
      simp (disch := first | omega | (simp only [newRow_size, Array.size_setIfInBounds, Array.size_push]; done) | (simp only [newRow_size, Array.size_setIfInBounds, Array.size_push]; omega)) []
      subst hQ
      exact Ans.of rfl
    · simp (disch := first | omega | (simp only [newRow_size, Array.size_setIfInBounds, Array.size_push]; done) | (simp only [newRow_size, Array.size_setIfInBounds, Array.size_push]; omega)) [l14_15, r14_9, hl, eqT, eqF, neT, neF, ltT, ltF, leT, leF, nltT, nltF, nleT, nleF, nneT, nneF, List.getElem?_cons_zero, List.getElem?_cons_succ, r14_16]
      refine Ans.next (known_spec (F := F) (by omega) g) ?_
      rintro u h2 ⟨rfl, k2⟩
      simp (disch := first | omega | (simp only [newRow_size, Array.size_setIfInBounds, Array.size_push]; done) | (simp only [newRow_size, Array.size_setIfInBounds, Array.size_push]; omega)) []
      subst hQ
      exact Ans.of rfl

end Go.Proofs.Ytkkagpchcefidaa

/- The laws over one script. -/
set_option linter.unusedSimpArgs false
set_option linter.unusedVariables false
namespace Go.Proofs.Ytkkagpchcefidaa
open Go.Ev

theorem f3_spec {F : Nat} (hF : 17592186044443 ≤ F) {h : H} (room begin' : Int) {v : Value} {script : List Stp} (s : SlR (fun b => b < h.size) 5 (StpC (fun b => b < h.size)) h v script) (hs : ∀ x ∈ script, x.Small) :
    Ans (cf F 3 [.int .i64 room, .int .i64 begin', v] h) fun u h' => u = .bool true := by
  generalize hQ : (fun (u : Value) (h' : H) => u = Value.bool true) = Q
  obtain ⟨F, rfl⟩ : ∃ G, F = G + 1 := ⟨F - 1, by omega⟩
  rw [cf_step (a := a3) rfl rfl (by simp [a3])]
  simp (disch := first | omega | (simp only [newRow_size, Array.size_setIfInBounds, Array.size_push]; done) | (simp only [newRow_size, Array.size_setIfInBounds, Array.size_push]; omega)) [a3, r3_0, r3_1]
  refine Ans.next (only_spec (F := F) (by omega) room begin' _ _ s hs) ?_
  rintro u h2 rfl
  simp (disch := first | omega | (simp only [newRow_size, Array.size_setIfInBounds, Array.size_push]; done) | (simp only [newRow_size, Array.size_setIfInBounds, Array.size_push]; omega)) []
  subst hQ
  exact Ans.of rfl

theorem f4_spec {F : Nat} (hF : 17592186044443 ≤ F) {h : H} (room begin' : Int) {v : Value} {script : List Stp} (s : SlR (fun b => b < h.size) 5 (StpC (fun b => b < h.size)) h v script) (hs : ∀ x ∈ script, x.Small) :
    Ans (cf F 4 [.int .i64 room, .int .i64 begin', v] h) fun u h' => u = .bool true := by
  generalize hQ : (fun (u : Value) (h' : H) => u = Value.bool true) = Q
  obtain ⟨F, rfl⟩ : ∃ G, F = G + 1 := ⟨F - 1, by omega⟩
  rw [cf_step (a := a4) rfl rfl (by simp [a4])]
  simp (disch := first | omega | (simp only [newRow_size, Array.size_setIfInBounds, Array.size_push]; done) | (simp only [newRow_size, Array.size_setIfInBounds, Array.size_push]; omega)) [a4, r4_0, r4_1]
  refine Ans.next (only_spec (F := F) (by omega) room begin' _ _ s hs) ?_
  rintro u h2 rfl
  simp (disch := first | omega | (simp only [newRow_size, Array.size_setIfInBounds, Array.size_push]; done) | (simp only [newRow_size, Array.size_setIfInBounds, Array.size_push]; omega)) []
  subst hQ
  exact Ans.of rfl

theorem f5_spec {F : Nat} (hF : 17592186044443 ≤ F) {h : H} (room begin' : Int) {v : Value} {script : List Stp} (s : SlR (fun b => b < h.size) 5 (StpC (fun b => b < h.size)) h v script) (hs : ∀ x ∈ script, x.Small) :
    Ans (cf F 5 [.int .i64 room, .int .i64 begin', v] h) fun u h' => u = .bool true := by
  generalize hQ : (fun (u : Value) (h' : H) => u = Value.bool true) = Q
  obtain ⟨F, rfl⟩ : ∃ G, F = G + 1 := ⟨F - 1, by omega⟩
  rw [cf_step (a := a5) rfl rfl (by simp [a5])]
  simp (disch := first | omega | (simp only [newRow_size, Array.size_setIfInBounds, Array.size_push]; done) | (simp only [newRow_size, Array.size_setIfInBounds, Array.size_push]; omega)) [a5, r5_0, r5_1]
  refine Ans.next (only_spec (F := F) (by omega) room begin' _ _ s hs) ?_
  rintro u h2 rfl
  simp (disch := first | omega | (simp only [newRow_size, Array.size_setIfInBounds, Array.size_push]; done) | (simp only [newRow_size, Array.size_setIfInBounds, Array.size_push]; omega)) []
  subst hQ
  exact Ans.of rfl

theorem f6_spec {F : Nat} (hF : 17592186044443 ≤ F) {h : H} (room begin' : Int) {v : Value} {script : List Stp} (s : SlR (fun b => b < h.size) 5 (StpC (fun b => b < h.size)) h v script) (hs : ∀ x ∈ script, x.Small) :
    Ans (cf F 6 [.int .i64 room, .int .i64 begin', v] h) fun u h' => u = .bool true := by
  generalize hQ : (fun (u : Value) (h' : H) => u = Value.bool true) = Q
  obtain ⟨F, rfl⟩ : ∃ G, F = G + 1 := ⟨F - 1, by omega⟩
  rw [cf_step (a := a6) rfl rfl (by simp [a6])]
  simp (disch := first | omega | (simp only [newRow_size, Array.size_setIfInBounds, Array.size_push]; done) | (simp only [newRow_size, Array.size_setIfInBounds, Array.size_push]; omega)) [a6, r6_0, r6_1]
  refine Ans.next (only_spec (F := F) (by omega) room begin' _ _ s hs) ?_
  rintro u h2 rfl
  simp (disch := first | omega | (simp only [newRow_size, Array.size_setIfInBounds, Array.size_push]; done) | (simp only [newRow_size, Array.size_setIfInBounds, Array.size_push]; omega)) []
  subst hQ
  exact Ans.of rfl

theorem f7_spec {F : Nat} (hF : 17592186044443 ≤ F) {h : H} (room begin' : Int) {v : Value} {script : List Stp} (s : SlR (fun b => b < h.size) 5 (StpC (fun b => b < h.size)) h v script) (hs : ∀ x ∈ script, x.Small) :
    Ans (cf F 7 [.int .i64 room, .int .i64 begin', v] h) fun u h' => u = .bool true := by
  generalize hQ : (fun (u : Value) (h' : H) => u = Value.bool true) = Q
  obtain ⟨F, rfl⟩ : ∃ G, F = G + 1 := ⟨F - 1, by omega⟩
  rw [cf_step (a := a7) rfl rfl (by simp [a7])]
  simp (disch := first | omega | (simp only [newRow_size, Array.size_setIfInBounds, Array.size_push]; done) | (simp only [newRow_size, Array.size_setIfInBounds, Array.size_push]; omega)) [a7, r7_0, r7_1]
  refine Ans.next (only_spec (F := F) (by omega) room begin' _ _ s hs) ?_
  rintro u h2 rfl
  simp (disch := first | omega | (simp only [newRow_size, Array.size_setIfInBounds, Array.size_push]; done) | (simp only [newRow_size, Array.size_setIfInBounds, Array.size_push]; omega)) []
  subst hQ
  exact Ans.of rfl

end Go.Proofs.Ytkkagpchcefidaa

/- QueueNothing: a nil queue and a zero queue. -/
set_option linter.unusedSimpArgs false
set_option linter.unusedVariables false
namespace Go.Proofs.Ytkkagpchcefidaa
open Go.Ev

def zcs : List Value := [.int .i32 0, .int .u32 0, .slice none 0 0, .int .i64 0, .int .i64 0, .int .i64 0]
def wcs : List Value := [.int .i64 0, .int .i64 0, .slice none 0 0]
def noP : Nat → Prop := fun _ => False

theorem step_q0 (x : Stp) : stepM q0 x = q0 := by
  unfold stepM
  split
  · exact put_q0 _ _
  split
  · exact coll_q0 _ _
  split
  · rfl
  · rfl

theorem zero_qs {g : H} {z : Nat} (hz : hget g z = some (.cells zcs 0 true [])) : QS noP g (.pointer (some ⟨z, 0, none⟩)) q0 [z] :=
  .inr ⟨z, none, 0, rfl, ⟨hz, fun _ => ⟨rfl, rfl⟩, (fun c e => nomatch e), id⟩, rfl⟩
theorem zero_cells {P : Nat → Prop} {g : H} {z : Nat} (s : QS P g (.pointer (some ⟨z, 0, none⟩)) q0 [z]) : hget g z = some (.cells zcs 0 true []) := by
  rcases s with ⟨e, _⟩ | ⟨b, r, first, e, s, e2⟩
  · cases e
  · injection e with e
    injection e with e
    injection e with e
    subst e
    cases r with
    | some r => simp at e2
    | none =>
      have := (s.no rfl).2
      subst this
      exact s.at'
theorem zero_ref (g : H) : RefC noP g wcs q0 := ⟨_, rfl, .inl ⟨.inl rfl, rfl⟩⟩

structure NoS (h g : H) (z wb d : Nat) (D : List Nat) : Prop where
  zc : hget g z = some (.cells zcs 0 true [])
  wc : hget g wb = some (.cells wcs 0 true [])
  dk : DeskS g d D
  zD : z ∉ D
  wD : wb ∉ D
  zw : z ≠ wb
  kg : Kept h g []
  nD : ∀ c ∈ D, h.size ≤ c
  nz : h.size ≤ z
  nw : h.size ≤ wb

theorem NoS.nil {h g : H} {z wb d : Nat} {D : List Nat} (s : NoS h g z wb d D) : PlS noP g (.pointer none) q0 [] wcs d D := ⟨.inl ⟨rfl, rfl, rfl⟩, zero_ref g, s.dk, fun _ _ q => q, by simp, fun _ q => q.elim⟩
theorem NoS.zero {h g : H} {z wb d : Nat} {D : List Nat} (s : NoS h g z wb d D) : PlS noP g (.pointer (some ⟨z, 0, none⟩)) q0 [z] wcs d D := ⟨zero_qs s.zc, zero_ref g, s.dk, fun _ _ q => q, fun c hc q => by simp at q; subst q; exact s.zD hc, fun _ q => q.elim⟩

theorem NoS.frame {h g g1 : H} {z wb d : Nat} {D : List Nat} (s : NoS h g z wb d D) (k : Kept g g1 []) : NoS h g1 z wb d D :=
  ⟨(k.get (lt_of_get s.zc) (by simp)).trans s.zc, (k.get (lt_of_get s.wc) (by simp)).trans s.wc, s.dk.kept k (by simp), s.zD, s.wD, s.zw, s.kg.trans k, s.nD, s.nz, s.nw⟩

/-- Behind a step, and what was answered written into a new block nb. -/
theorem NoS.step {h g g2 g3 : H} {z wb d nb : Nat} {D D' : List Nat} {W : List Nat} (s : NoS h g z wb d D) (hW : ∀ c ∈ W, c = z) (hz : hget g2 z = some (.cells zcs 0 true [])) (dk : DeskS g2 d D') (k2 : Kept g g2 (W ++ D)) (hD' : ∀ c ∈ D', c ∈ D ∨ g.size ≤ c)
    (k3 : Kept g2 g3 [nb]) (nbz : nb ≠ z) (nbw : nb ≠ wb) (nbD : nb ∉ D) (nbs : nb < g.size) (nbh : h.size ≤ nb) : NoS h g3 z wb d D' := by
  have hzl := lt_of_get s.zc
  have hwl := lt_of_get s.wc
  have y2 := k2.1
  have hwW : wb ∉ W ++ D := fun q => by
    rcases List.mem_append.1 q with q | q
    · exact s.zw (hW _ q).symm
    · exact s.wD q
  refine ⟨(k3.get (lt_of_get hz) (by simpa using fun e => nbz e.symm)).trans hz, (k3.get (by omega) (by simpa using fun e => nbw e.symm)).trans ((k2.get hwl hwW).trans s.wc), dk.kept k3 ?_, ?_, ?_, s.zw, ⟨by have := s.kg.1; have := k3.1; omega, fun c hc _ => ?_⟩, ?_, s.nz, s.nw⟩
  · intro c hc q
    simp at q
    subst q
    rcases hD' _ hc with r | r
    · exact nbD r
    · omega
  · intro q
    rcases hD' _ q with r | r
    · exact s.zD r
    · omega
  · intro q
    rcases hD' _ q with r | r
    · exact s.wD r
    · omega
  · have := s.kg.1
    refine (k3.get (by omega) (by simp; omega)).trans ((k2.get (by omega) (fun q => ?_)).trans (s.kg.get hc (by simp)))
    have := s.nz
    rcases List.mem_append.1 q with q | q
    · have := hW _ q; omega
    · have := s.nD _ q; omega
  · intro c hc
    have := s.kg.1
    rcases hD' _ hc with r | r
    · exact s.nD c r
    · omega

set_option maxHeartbeats 1000000 in
theorem f9_spec {F : Nat} (hF : 17592186044443 ≤ F) {h : H} {v : Value} {script : List Stp} (s : SlR (fun b => b < h.size) 5 (StpC (fun b => b < h.size)) h v script) (hs : ∀ x ∈ script, x.Small) :
    Ans (cf F 9 [v] h) fun u h' => u = .bool true := by
  generalize hQ : (fun (u : Value) (h' : H) => u = Value.bool true) = Q
  obtain ⟨F, rfl⟩ : ∃ G, F = G + 1 := ⟨F - 1, by omega⟩
  rw [cf_step (a := a9) rfl rfl (by simp [a9])]
  have hl := s.len
  simp (disch := first | omega | (simp only [newRow_size, Array.size_setIfInBounds, Array.size_push]; done) | (simp only [newRow_size, Array.size_setIfInBounds, Array.size_push]; omega)) [a9, r9_0, r9_1, r9_2, r9_3, r9_4, r9_5]
  generalize hdd : [Value.slice none 0 0, .slice none 0 0, .slice none 0 0, .slice none 0 0] = dcs
  have ez : [Value.int .i32 0, .int .u32 0, .slice none 0 0, .int .i64 0, .int .i64 0, .int .i64 0] = zcs := rfl
  have ew : [Value.int .i64 0, .int .i64 0, .slice none 0 0] = wcs := rfl
  rw [ez, ew]
  have hz4 : hget (Ev.newRow (Ev.newRow (Ev.newRow h zcs 0 []) wcs 0 []) dcs 0 []) h.size = some (.cells zcs 0 true []) := by simp (disch := first | omega | (simp only [newRow_size, Array.size_setIfInBounds, Array.size_push]; done) | (simp only [newRow_size, Array.size_setIfInBounds, Array.size_push]; omega)) []
  have hw4 : hget (Ev.newRow (Ev.newRow (Ev.newRow h zcs 0 []) wcs 0 []) dcs 0 []) (h.size + 1) = some (.cells wcs 0 true []) := by simp (disch := first | omega | (simp only [newRow_size, Array.size_setIfInBounds, Array.size_push]; done) | (simp only [newRow_size, Array.size_setIfInBounds, Array.size_push]; omega)) []
  have hd4 : hget (Ev.newRow (Ev.newRow (Ev.newRow h zcs 0 []) wcs 0 []) dcs 0 []) (h.size + 2) = some (.cells dcs 0 true []) := by simp (disch := first | omega | (simp only [newRow_size, Array.size_setIfInBounds, Array.size_push]; done) | (simp only [newRow_size, Array.size_setIfInBounds, Array.size_push]; omega)) []
  have k0 : Kept h (Ev.newRow (Ev.newRow (Ev.newRow h zcs 0 []) wcs 0 []) dcs 0 []) [] := ((rowKept _ _ _ _).trans (rowKept _ _ _ _)).trans (rowKept _ _ _ _)
  generalize Ev.newRow (Ev.newRow (Ev.newRow h zcs 0 []) wcs 0 []) dcs 0 [] = g4 at hz4 hw4 hd4 k0 ⊢
  subst hdd
  have n0 : NoS h g4 h.size (h.size + 1) (h.size + 2) [h.size + 2] := ⟨hz4, hw4, desk_new hd4, by simp, by simp, by omega, k0, by simp, by omega, by omega⟩
  refine loop_rule (fun m e g => ∃ (i : Nat) (D : List Nat), m = 150 - i ∧ i ≤ 150 ∧ e = [(0, v), (3, .pointer none), (4, .pointer (some ⟨h.size, 0, none⟩)), (5, .pointer (some ⟨h.size + 1, 0, none⟩)), (6, .pointer (some ⟨h.size + 2, 0, none⟩)), (7, .int .i64 i)] ∧ NoS h g h.size (h.size + 1) (h.size + 2) D) ?_ _ 150 _ _ (by omega) ⟨0, _, by omega, by omega, rfl, n0⟩
  clear n0
  rintro m e g again ⟨i, D, rfl, hi150, rfl, sc⟩ ih
  have hw1 : IntKind.i64.wrap ((i : Int) + 1) = ((i + 1 : Nat) : Int) := by rw [wrap_id (by omega) (by omega)]; rfl
  by_cases hlt : i < script.length ∧ i < 150
  · obtain ⟨x, hx⟩ : ∃ x, script[i]? = some x := ⟨_, List.getElem?_eq_getElem hlt.1⟩
    have hxs := hs x (List.mem_of_getElem? hx)
    have sg := SlR.imp s (ok' := fun b => b < h.size) (R' := StpC (fun b => b < h.size)) (h' := g) (fun _ _ q => q) (fun cs x _ q => StpC.imp q (fun _ _ q => q) (keep_of sc.kg.c (by simp))) (keep_of sc.kg.c (by simp))
    obtain ⟨b', o, c, csx, es, lv, an, rfl, hk, hg, hle, hx5⟩ := sg.at' hx
    have hcl : ((csx.drop (o + i * 5)).take 5).length = 5 := by simp; omega
    have hwat := sc.wc
    simp only [wcs] at hwat
    have hgs := lt_of_get hg
    have hws := lt_of_get hwat
    simp (disch := first | omega | (simp only [newRow_size, Array.size_setIfInBounds, Array.size_push]; done) | (simp only [newRow_size, Array.size_setIfInBounds, Array.size_push]; omega)) [l9_12, r9_6, hg, hl, eqT, eqF, neT, neF, ltT, ltF, leT, leF, nltT, nltF, nleT, nleF, nneT, nneF, List.getElem?_cons_zero, List.getElem?_cons_succ, d9_7, hwat]
    rw [ew]
    have k5 := rowKept g wcs 0 []
    have hnb : hget (Ev.newRow g wcs 0 []) g.size = some (.cells wcs 0 true []) := by simp
    have z5 : (Ev.newRow g wcs 0 []).size = g.size + 1 := by simp
    generalize Ev.newRow g wcs 0 [] = g5 at k5 hnb z5 ⊢
    have hx6 := StpC.imp hx5 (ok' := fun b => b < h.size) (fun _ _ q => q) (keep_of k5.c (by simp))
    have s5 := sc.frame k5
    have hD5 := sc.dk.lt
    have nz := s5.nz
    have nw := s5.nw
    have hz5 := lt_of_get s5.zc
    refine Ans.nextE (plays_spec (F := F) (by omega) s5.nil Qm.Good.zero (by simp [q0, ShortI]) hx6 (fun c hc => by have := s5.nD c (by simpa using hc); omega) hxs) ?_
    rintro u g6 ⟨cs', D', P', rfl, pl6, k6, hD', hP'⟩
    have y6 := k6.1
    obtain ⟨vq', hcs', hvq'⟩ := pl6.rf
    have oq' := hvq'.one
    simp only [oneCell] at oq'
    have nbD : g.size ∉ [] ++ D := fun q => by have := hD5 _ (by simpa using q); omega
    have hnb6 := (k6.get (by omega) nbD).trans hnb
    simp only [wcs] at hnb6
    have hnb6s := lt_of_get hnb6
    have hz6 := (k6.get hz5 (by simpa using s5.zD)).trans s5.zc
    have bD5 : b' ∉ [] ++ D := fun q => by have := s5.nD _ (by simpa using q); omega
    have hgg6 : hget g6 b' = some (.cells csx es lv an) := (k6.get (by omega) bD5).trans ((k5.get hgs (by simp)).trans hg)
    rw [hcs']
    simp (disch := first | omega | (simp only [newRow_size, Array.size_setIfInBounds, Array.size_push]; done) | (simp only [newRow_size, Array.size_setIfInBounds, Array.size_push]; omega)) [hnb6, oq', eqT, eqF, neT, neF, ltT, ltF, leT, leF, nltT, nltF, nleT, nleF, nneT, nneF, List.getElem?_cons_zero, List.getElem?_cons_succ]
    rw [← hcs']
    have k7 : Kept g6 (g6.setIfInBounds g.size (.cells cs' 0 true [])) [g.size] := ⟨by simp, fun c hc hn => set_other (fun e => hn (by simp [e]))⟩
    have n7 := s5.step (W := []) (by simp) hz6 pl6.dk k6 hD' k7 (by omega) (by omega) (by simpa using nbD) (by omega) (by omega)
    generalize g6.setIfInBounds g.size (.cells cs' 0 true []) = g7 at k7 n7 ⊢
    have hg7 := (k7.get (lt_of_get hgg6) (by simp; omega)).trans hgg6
    have hg7s := lt_of_get hg7
    have hx7 : StpC (fun b => b < h.size) g7 ((csx.drop (o + i * 5)).take 5) x := StpC.imp hx6 (ok' := fun b => b < h.size) (fun _ _ q => q) (fun c zs hc hz => by
      have hc5 := cel_lt hz
      have hcD : c ∉ [] ++ D := fun q => by have := s5.nD _ (by simpa using q); omega
      exact (cel_congr ((k7.get (by omega) (by simp; have := sc.kg.1; omega)).trans (k6.get hc5 hcD))).trans hz)
    clear hgg6 hnb6 hz6
    have hwat7 := n7.wc
    simp only [wcs] at hwat7
    have hws7 := lt_of_get hwat7
    simp (disch := first | omega | (simp only [newRow_size, Array.size_setIfInBounds, Array.size_push]; done) | (simp only [newRow_size, Array.size_setIfInBounds, Array.size_push]; omega)) [d9_8, hg7, eqT, eqF, neT, neF, ltT, ltF, leT, leF, nltT, nltF, nleT, nleF, nneT, nneF, List.getElem?_cons_zero, List.getElem?_cons_succ, hwat7]
    rw [ew]
    have k8 := rowKept g7 wcs 0 []
    have hnb8 : hget (Ev.newRow g7 wcs 0 []) g7.size = some (.cells wcs 0 true []) := by simp
    have z8 : (Ev.newRow g7 wcs 0 []).size = g7.size + 1 := by simp
    generalize Ev.newRow g7 wcs 0 [] = g8 at k8 hnb8 z8 ⊢
    have hx8 := StpC.imp hx7 (ok' := fun b => b < h.size) (fun _ _ q => q) (keep_of k8.c (by simp))
    have s8 := n7.frame k8
    have hD8 := n7.dk.lt
    have hz8 := lt_of_get s8.zc
    refine Ans.nextE (plays_spec (F := F) (by omega) s8.zero Qm.Good.zero (by simp [q0, ShortI]) hx8 (fun c hc => by
      rcases List.mem_append.1 hc with r | r
      · simp at r; omega
      · have := s8.nD c r; omega) hxs) ?_
    rintro u g9 ⟨cs2, D2, P2, rfl, pl9, k9, hD2, hP2⟩
    have y9 := k9.1
    have qs9 := pl9.qs
    rw [step_q0] at qs9
    obtain ⟨vq2, hcs2, hvq2⟩ := pl9.rf
    have oq2 := hvq2.one
    simp only [oneCell] at oq2
    have nbD8 : g7.size ∉ [h.size] ++ D' := fun q => by
      have y7 := n7.kg.1
      have := lt_of_get n7.zc
      rcases List.mem_append.1 q with r | r
      · simp at r; omega
      · have := hD8 _ r; omega
    have hnb9 := (k9.get (by omega) nbD8).trans hnb8
    simp only [wcs] at hnb9
    have hnb9s := lt_of_get hnb9
    have bD8 : b' ∉ [h.size] ++ D' := fun q => by
      rcases List.mem_append.1 q with r | r
      · simp at r; omega
      · have := s8.nD _ r; omega
    have hgg9 : hget g9 b' = some (.cells csx es lv an) := (k9.get (by omega) bD8).trans ((k8.get hg7s (by simp)).trans hg7)
    rw [hcs2]
    simp (disch := first | omega | (simp only [newRow_size, Array.size_setIfInBounds, Array.size_push]; done) | (simp only [newRow_size, Array.size_setIfInBounds, Array.size_push]; omega)) [hnb9, oq2, eqT, eqF, neT, neF, ltT, ltF, leT, leF, nltT, nltF, nleT, nleF, nneT, nneF, List.getElem?_cons_zero, List.getElem?_cons_succ, r9_9, r9_11, hw1]
    rw [← hcs2]
    have k10 : Kept g9 (g9.setIfInBounds g7.size (.cells cs2 0 true [])) [g7.size] := ⟨by simp, fun c hc hn => set_other (fun e => hn (by simp [e]))⟩
    have n10 := s8.step (W := [h.size]) (by simp) (zero_cells qs9) pl9.dk k9 hD2 k10 (by have := lt_of_get n7.zc; omega) (by omega) (fun q => nbD8 (List.mem_append_right _ q)) (by omega) (by have := n7.kg.1; omega)
    exact ih (150 - (i + 1)) _ _ (by omega) ⟨i + 1, _, rfl, by omega, rfl, n10⟩
  · by_cases h1' : i < script.length
    · simp (disch := first | omega | (simp only [newRow_size, Array.size_setIfInBounds, Array.size_push]; done) | (simp only [newRow_size, Array.size_setIfInBounds, Array.size_push]; omega)) [l9_12, r9_6, hl, eqT, eqF, neT, neF, ltT, ltF, leT, leF, nltT, nltF, nleT, nleF, nneT, nneF, List.getElem?_cons_zero, List.getElem?_cons_succ, r9_13]
      refine Ans.next (known_spec (F := F) (by omega) g) ?_
      rintro u h2 ⟨rfl, k2⟩
      simp (disch := first | omega | (simp only [newRow_size, Array.size_setIfInBounds, Array.size_push]; done) | (simp only [newRow_size, Array.size_setIfInBounds, Array.size_push]; omega)) []
      subst hQ
      exact Ans.of rfl
    · simp (disch := first | omega | (simp only [newRow_size, Array.size_setIfInBounds, Array.size_push]; done) | (simp only [newRow_size, Array.size_setIfInBounds, Array.size_push]; omega)) [l9_12, r9_6, hl, eqT, eqF, neT, neF, ltT, ltF, leT, leF, nltT, nltF, nleT, nleF, nneT, nneF, List.getElem?_cons_zero, List.getElem?_cons_succ, r9_13]
      refine Ans.next (known_spec (F := F) (by omega) g) ?_
      rintro u h2 ⟨rfl, k2⟩
      simp (disch := first | omega | (simp only [newRow_size, Array.size_setIfInBounds, Array.size_push]; done) | (simp only [newRow_size, Array.size_setIfInBounds, Array.size_push]; omega)) []
      subst hQ
      exact Ans.of rfl

end Go.Proofs.Ytkkagpchcefidaa

/- QueueTwo: two queues in turns, one desk. -/
set_option linter.unusedSimpArgs false
set_option linter.unusedVariables false
namespace Go.Proofs.Ytkkagpchcefidaa
open Go.Ev

theorem New_cases {F : Nat} (hF : 1 ≤ F) (n m : Int) : (1 ≤ (newM n m).1 ∧ (newM n m).1 ≤ 3 ∧ ∀ h : H, cf F 16 [.int .i64 n, .int .i64 m] h = some (.tuple ⟨[.pointer none, .int .i64 (newM n m).1]⟩, h)) ∨ (newM n m = (0, Qm.new n m) ∧ 1 ≤ n ∧ n ≤ 32 ∧ 0 ≤ m ∧ m ≤ 2147483647) := by
  by_cases h1 : n < 1 ∨ 32 < n
  · have e : (newM n m).1 = 1 := by unfold newM; rw [if_pos h1]
    rw [e]
    exact .inl ⟨by omega, by omega, fun h => New_bad1 hF h n m h1⟩
  by_cases h2 : m < 0 ∨ 2147483647 < m
  · have e : (newM n m).1 = 3 := by unfold newM; rw [if_neg h1, if_pos h2]
    rw [e]
    exact .inl ⟨by omega, by omega, fun h => New_bad2 hF h n m (by omega) (by omega) h2⟩
  · exact .inr ⟨by unfold newM; rw [if_neg h1, if_neg h2], by omega, by omega, by omega, by omega⟩

/-- Two queues in a script. -/
structure Pair (h : H) (g : H) (d : Nat) (D : List Nat) (P1 : Nat → Prop) (v1 : Value) (q1 : Qm) (W1 : List Nat) (cs1 : List Value) (wb1 : Nat) (P2 : Nat → Prop) (v2 : Value) (q2 : Qm) (W2 : List Nat) (cs2 : List Value) (wb2 : Nat) : Prop where
  a : Sc h P1 g v1 q1 W1 cs1 d D wb1
  b : Sc h P2 g v2 q2 W2 cs2 d D wb2
  ww : ∀ c ∈ W1, c ∉ W2
  wp1 : ∀ c ∈ W1, ¬ P2 c
  wp2 : ∀ c ∈ W2, ¬ P1 c
  x1 : wb1 ∉ W2
  x2 : wb2 ∉ W1
  y1 : ¬ P2 wb1
  y2 : ¬ P1 wb2
  ne : wb1 ≠ wb2

section
variable {h g : H} {d : Nat} {D : List Nat} {P1 : Nat → Prop} {v1 : Value} {q1 : Qm} {W1 : List Nat} {cs1 : List Value} {wb1 : Nat} {P2 : Nat → Prop} {v2 : Value} {q2 : Qm} {W2 : List Nat} {cs2 : List Value} {wb2 : Nat}

theorem Pair.swap (s : Pair h g d D P1 v1 q1 W1 cs1 wb1 P2 v2 q2 W2 cs2 wb2) : Pair h g d D P2 v2 q2 W2 cs2 wb2 P1 v1 q1 W1 cs1 wb1 :=
  ⟨s.b, s.a, fun c h1 h2 => s.ww c h2 h1, s.wp2, s.wp1, s.x2, s.x1, s.y2, s.y1, s.ne.symm⟩

/-- A step on the first one. -/
theorem Pair.play (s : Pair h g d D P1 v1 q1 W1 cs1 wb1 P2 v2 q2 W2 cs2 wb2) {q' : Qm} (hq : q'.Good) (hsh : ShortI q'.items) {g2 : H} {cs' : List Value} {D' : List Nat} {P' : Nat → Prop} (pl : PlS P' g2 v1 q' W1 cs' d D') (k2 : Kept g g2 (W1 ++ D)) (hD' : ∀ c ∈ D', c ∈ D ∨ g.size ≤ c) (hP' : ∀ c, P' c → P1 c ∨ g.size ≤ c) :
    Pair h (g2.setIfInBounds wb1 (.cells cs' 0 true [])) d D' P' v1 q' W1 cs' wb1 P2 v2 q2 W2 cs2 wb2 := by
  have y2 := k2.1
  have hw1 := lt_of_get s.a.wat
  have hw2 := lt_of_get s.b.wat
  have k4 : Kept g2 (g2.setIfInBounds wb1 (.cells cs' 0 true [])) [wb1] := ⟨by simp, fun c hc hn => set_other (fun e => hn (by simp [e]))⟩
  have hw1' : wb1 < g2.size := by omega
  have hat : hget (g2.setIfInBounds wb1 (.cells cs' 0 true [])) wb1 = some (.cells cs' 0 true []) := by simp [hw1']
  have sa := s.a.step hq hsh (Kept.refl g []) pl k2 hD' hP' k4 (by simp) hat
  generalize g2.setIfInBounds wb1 (.cells cs' 0 true []) = g4 at k4 sa ⊢
  have k : Kept g g4 (wb1 :: (W1 ++ D)) := (k2.weak (fun c q => List.mem_cons_of_mem _ q)).trans (k4.weak (by simp))
  have hL : ∀ c ∈ wb1 :: (W1 ++ D), c ∉ W2 ∧ ¬ P2 c := by
    intro c hc
    rw [List.mem_cons, List.mem_append] at hc
    rcases hc with rfl | hc | hc
    · exact ⟨s.x1, s.y1⟩
    · exact ⟨s.ww c hc, s.wp1 c hc⟩
    · exact ⟨s.b.pl.wd c hc, s.b.pl.pd c hc⟩
  have hW2 := s.b.pl.qs.lt
  have nd : ∀ c, c < g.size → c ∉ D → c ∉ D' := by
    intro c hc hn q
    rcases hD' c q with r | r
    · exact hn r
    · omega
  have sb : Sc h P2 g4 v2 q2 W2 cs2 d D' wb2 := by
    refine ⟨⟨s.b.pl.qs.kept k hL, s.b.pl.rf.imp (fun _ _ q => q) (keep_of k.c (fun c hc => (hL c hc).2)), sa.pl.dk, ?_, ?_, ?_⟩, s.b.good, s.b.short, ?_, s.b.wP, s.b.wW, nd _ hw2 s.b.wD, sa.kg, s.b.nW, sa.nD, s.b.nw⟩
    · intro c hc q
      rcases hD' c hc with r | r
      · exact s.b.pl.pd c r q
      · have := s.b.pl.plt c q; omega
    · intro c hc q
      rcases hD' c hc with r | r
      · exact s.b.pl.wd c r q
      · have := hW2 c q; omega
    · intro c q
      have := s.b.pl.plt c q
      have := k.1
      omega
    · refine (k.get hw2 ?_).trans s.b.wat
      rw [List.mem_cons, List.mem_append]
      rintro (e | e | e)
      · exact s.ne e.symm
      · exact s.x2 e
      · exact s.b.wD e
  refine ⟨sa, sb, s.ww, s.wp1, ?_, s.x1, s.x2, s.y1, ?_, s.ne⟩
  · intro c hc q
    rcases hP' c q with r | r
    · exact s.wp2 c hc r
    · have := hW2 c hc; omega
  · intro q
    rcases hP' _ q with r | r
    · exact s.y2 r
    · omega
end

set_option maxHeartbeats 2000000 in
theorem f8_spec {F : Nat} (hF : 17592186044443 ≤ F) {h : H} (room begin' other : Int) {v : Value} {script : List Stp} (s : SlR (fun b => b < h.size) 5 (StpC (fun b => b < h.size)) h v script) (hs : ∀ x ∈ script, x.Small) :
    Ans (cf F 8 [.int .i64 room, .int .i64 begin', .int .i64 other, v] h) fun u h' => u = .bool true := by
  generalize hQ : (fun (u : Value) (h' : H) => u = Value.bool true) = Q
  obtain ⟨F, rfl⟩ : ∃ G, F = G + 1 := ⟨F - 1, by omega⟩
  rw [cf_step (a := a8) rfl rfl (by simp [a8])]
  have hl := s.len
  simp (disch := first | omega | (simp only [newRow_size, Array.size_setIfInBounds, Array.size_push]; done) | (simp only [newRow_size, Array.size_setIfInBounds, Array.size_push]; omega)) [a8, r8_0, r8_1]
  refine Ans.next (refNew_spec (F := F) (by omega) noP h room begin') ?_
  rintro u g1 ⟨cs1, rfl, rf1, k1⟩
  obtain ⟨v1, hcs1, hv1⟩ := rf1
  have ov1 := hv1.one
  simp only [oneCell] at ov1
  subst hcs1
  have y1 := k1.1
  simp (disch := first | omega | (simp only [newRow_size, Array.size_setIfInBounds, Array.size_push]; done) | (simp only [newRow_size, Array.size_setIfInBounds, Array.size_push]; omega)) [ov1, eqT, eqF, neT, neF, ltT, ltF, leT, leF, nltT, nltF, nleT, nleF, nneT, nneF, List.getElem?_cons_zero, List.getElem?_cons_succ, r8_2]
  have rf1 : RefC noP g1 [.int .i64 (newM room begin').2.room, .int .i64 (newM room begin').2.last, v1] (newM room begin').2 := ⟨v1, rfl, hv1⟩
  generalize hcsE : [Value.int .i64 (newM room begin').2.room, .int .i64 (newM room begin').2.last, v1] = cs1 at rf1 ⊢
  have hwb1 : hget (Ev.newRow g1 cs1 0 []) g1.size = some (.cells cs1 0 true []) := by simp
  have k1' := rowKept g1 cs1 0 []
  generalize Ev.newRow g1 cs1 0 [] = g2 at hwb1 k1' ⊢
  have y2 := k1'.1
  have hwb1s := lt_of_get hwb1
  refine Ans.next (refNew_spec (F := F) (by omega) noP g2 other begin') ?_
  rintro u g3 ⟨cs2, rfl, rf2, k2⟩
  obtain ⟨v2, hcs2, hv2⟩ := rf2
  have ov2 := hv2.one
  simp only [oneCell] at ov2
  subst hcs2
  have y3 := k2.1
  simp (disch := first | omega | (simp only [newRow_size, Array.size_setIfInBounds, Array.size_push]; done) | (simp only [newRow_size, Array.size_setIfInBounds, Array.size_push]; omega)) [ov2, eqT, eqF, neT, neF, ltT, ltF, leT, leF, nltT, nltF, nleT, nleF, nneT, nneF, List.getElem?_cons_zero, List.getElem?_cons_succ, r8_3]
  have rf2 : RefC noP g3 [.int .i64 (newM other begin').2.room, .int .i64 (newM other begin').2.last, v2] (newM other begin').2 := ⟨v2, rfl, hv2⟩
  generalize hcsE2 : [Value.int .i64 (newM other begin').2.room, .int .i64 (newM other begin').2.last, v2] = cs2 at rf2 ⊢
  have hwb2 : hget (Ev.newRow g3 cs2 0 []) g3.size = some (.cells cs2 0 true []) := by simp
  have k2' := rowKept g3 cs2 0 []
  generalize Ev.newRow g3 cs2 0 [] = g4 at hwb2 k2' ⊢
  have y4 := k2'.1
  have hwb2s := lt_of_get hwb2
  rcases New_cases (F := F) (by omega) room begin' with ⟨f1, f2, f3⟩ | ⟨e1, e2, e3, e4, e5⟩
  · rcases New_cases (F := F) (by omega) other begin' with ⟨f1', f2', f3'⟩ | ⟨e1', e2', e3', e4', e5'⟩
    · have hwr : IntKind.i64.wrap ((newM room begin').1 + (newM other begin').1) = (newM room begin').1 + (newM other begin').1 := wrap_id (by omega) (by omega)
      simp (disch := first | omega | (simp only [newRow_size, Array.size_setIfInBounds, Array.size_push]; done) | (simp only [newRow_size, Array.size_setIfInBounds, Array.size_push]; omega)) [f3, f3', r8_4, r8_5, num_eq (F := F) (by omega), eqT, eqF, neT, neF, ltT, ltF, leT, leF, nltT, nltF, nleT, nleF, nneT, nneF, List.getElem?_cons_zero, List.getElem?_cons_succ, r8_7, r8_8, hwr]
      refine Ans.next (known_spec (F := F) (by omega) _) ?_
      rintro u h2 ⟨rfl, k2⟩
      simp (disch := first | omega | (simp only [newRow_size, Array.size_setIfInBounds, Array.size_push]; done) | (simp only [newRow_size, Array.size_setIfInBounds, Array.size_push]; omega)) []
      subst hQ
      exact Ans.of rfl
    · simp (disch := first | omega | (simp only [newRow_size, Array.size_setIfInBounds, Array.size_push]; done) | (simp only [newRow_size, Array.size_setIfInBounds, Array.size_push]; omega)) [f3, eqT, eqF, neT, neF, ltT, ltF, leT, leF, nltT, nltF, nleT, nleF, nneT, nneF, List.getElem?_cons_zero, List.getElem?_cons_succ, r8_4]
      refine Ans.next (New_spec (F := F) (by omega) g4 other begin' (by omega) (by omega) (by omega) (by omega)) ?_
      rintro u g5 ⟨b, r, rfl, s1, zb, zr, hb, hr, hbr, k3⟩
      have e1'' : (newM other begin').1 = 0 := by rw [e1']
      have hwr : IntKind.i64.wrap (newM room begin').1 = (newM room begin').1 := wrap_id (by omega) (by omega)
      simp (disch := first | omega | (simp only [newRow_size, Array.size_setIfInBounds, Array.size_push]; done) | (simp only [newRow_size, Array.size_setIfInBounds, Array.size_push]; omega)) [r8_5, num_eq (F := F) (by omega), e1'', eqT, eqF, neT, neF, ltT, ltF, leT, leF, nltT, nltF, nleT, nleF, nneT, nneF, List.getElem?_cons_zero, List.getElem?_cons_succ, r8_7, r8_8, hwr]
      refine Ans.next (known_spec (F := F) (by omega) _) ?_
      rintro u h2 ⟨rfl, k2⟩
      simp (disch := first | omega | (simp only [newRow_size, Array.size_setIfInBounds, Array.size_push]; done) | (simp only [newRow_size, Array.size_setIfInBounds, Array.size_push]; omega)) []
      subst hQ
      exact Ans.of rfl
  have ez1 : (newM room begin').1 = 0 := by rw [e1]
  refine Ans.next (New_spec (F := F) (by omega) g4 room begin' (by omega) (by omega) (by omega) (by omega)) ?_
  rintro u g5 ⟨b, r, rfl, s1, zb, zr, hb, hr, hbr, k3⟩
  have y5 := k3.1
  rcases New_cases (F := F) (by omega) other begin' with ⟨f1', f2', f3'⟩ | ⟨e1', e2', e3', e4', e5'⟩
  · have hwr : IntKind.i64.wrap (newM other begin').1 = (newM other begin').1 := wrap_id (by omega) (by omega)
    simp (disch := first | omega | (simp only [newRow_size, Array.size_setIfInBounds, Array.size_push]; done) | (simp only [newRow_size, Array.size_setIfInBounds, Array.size_push]; omega)) [f3', r8_4, r8_5, num_eq (F := F) (by omega), ez1, eqT, eqF, neT, neF, ltT, ltF, leT, leF, nltT, nltF, nleT, nleF, nneT, nneF, List.getElem?_cons_zero, List.getElem?_cons_succ, r8_7, r8_8, hwr]
    refine Ans.next (known_spec (F := F) (by omega) _) ?_
    rintro u h2 ⟨rfl, k2⟩
    simp (disch := first | omega | (simp only [newRow_size, Array.size_setIfInBounds, Array.size_push]; done) | (simp only [newRow_size, Array.size_setIfInBounds, Array.size_push]; omega)) []
    subst hQ
    exact Ans.of rfl
  simp (disch := first | omega | (simp only [newRow_size, Array.size_setIfInBounds, Array.size_push]; done) | (simp only [newRow_size, Array.size_setIfInBounds, Array.size_push]; omega)) [eqT, eqF, neT, neF, ltT, ltF, leT, leF, nltT, nltF, nleT, nleF, nneT, nneF, List.getElem?_cons_zero, List.getElem?_cons_succ, r8_4]
  refine Ans.next (New_spec (F := F) (by omega) g5 other begin' (by omega) (by omega) (by omega) (by omega)) ?_
  rintro u g6 ⟨b', r', rfl, s1', zb', zr', hb', hr', hbr', k3'⟩
  have y6 := k3'.1
  have ez2 : (newM other begin').1 = 0 := by rw [e1']
  simp (disch := first | omega | (simp only [newRow_size, Array.size_setIfInBounds, Array.size_push]; done) | (simp only [newRow_size, Array.size_setIfInBounds, Array.size_push]; omega)) [r8_5, num_eq (F := F) (by omega), ez1, ez2, eqT, eqF, neT, neF, ltT, ltF, leT, leF, nltT, nltF, nleT, nleF, nneT, nneF, List.getElem?_cons_zero, List.getElem?_cons_succ, r8_7, r8_9, r8_10]
  rw [e1] at rf1
  rw [e1'] at rf2
  have hd7 : hget (Ev.newRow g6 [.slice none 0 0, .slice none 0 0, .slice none 0 0, .slice none 0 0] 0 []) g6.size = some (.cells [.slice none 0 0, .slice none 0 0, .slice none 0 0, .slice none 0 0] 0 true []) := by simp
  have k7 := rowKept g6 [.slice none 0 0, .slice none 0 0, .slice none 0 0, .slice none 0 0] 0 []
  generalize Ev.newRow g6 [.slice none 0 0, .slice none 0 0, .slice none 0 0, .slice none 0 0] 0 [] = g7 at hd7 k7 ⊢
  have y7 := k7.1
  have hW1 : ∀ c ∈ b :: (some r).toList, g4.size ≤ c ∧ c < g5.size := by
    intro c hc
    simp at hc
    omega
  have hW2 : ∀ c ∈ b' :: (some r').toList, g5.size ≤ c ∧ c < g6.size := by
    intro c hc
    simp at hc
    omega
  have p0 : Pair h g7 g6.size [g6.size] noP (.pointer (some ⟨b, 0, none⟩)) (Qm.new room begin') (b :: (some r).toList) cs1 g1.size noP (.pointer (some ⟨b', 0, none⟩)) (Qm.new other begin') (b' :: (some r').toList) cs2 g3.size := by
    refine ⟨⟨⟨.inr ⟨b, some r, 0, rfl, ((s1 noP id id).frame k3').frame k7, rfl⟩, rf1.imp (fun _ _ q => q) (fun _ _ q => q.elim), desk_new hd7, fun _ _ q => q, ?_, fun c q => q.elim⟩, Qm.Good.new (by omega) (by omega) (by omega) (by omega), by simp [Qm.new, ShortI], ?_, id, ?_, ?_, (((((k1.trans k1').trans k2).trans k2').trans k3).trans k3').trans k7, ?_, ?_, by omega⟩, ⟨⟨.inr ⟨b', some r', 0, rfl, (s1' noP id id).frame k7, rfl⟩, rf2.imp (fun _ _ q => q) (fun _ _ q => q.elim), desk_new hd7, fun _ _ q => q, ?_, fun c q => q.elim⟩, Qm.Good.new (by omega) (by omega) (by omega) (by omega), by simp [Qm.new, ShortI], ?_, id, ?_, ?_, (((((k1.trans k1').trans k2).trans k2').trans k3).trans k3').trans k7, ?_, ?_, by omega⟩, ?_, fun _ _ q => q, fun _ _ q => q, ?_, ?_, id, id, by omega⟩
    · intro c hc q
      have := hW1 c q
      simp at hc; omega
    · exact (((((k2.trans k2').trans k3).trans k3').trans k7).get hwb1s (by simp)).trans hwb1
    · intro q
      have := hW1 _ q
      omega
    · simp; omega
    · intro c hc
      have := hW1 c hc
      omega
    · intro c hc
      simp at hc; omega
    · intro c hc q
      have := hW2 c q
      simp at hc; omega
    · exact (((k3.trans k3').trans k7).get hwb2s (by simp)).trans hwb2
    · intro q
      have := hW2 _ q
      omega
    · simp; omega
    · intro c hc
      have := hW2 c hc
      omega
    · intro c hc
      simp at hc; omega
    · intro c hc q
      have := hW1 c hc
      have := hW2 c q
      omega
    · intro q
      have := hW2 _ q
      omega
    · intro q
      have := hW1 _ q
      omega
  refine loop_rule (fun m e g => ∃ (i : Nat) (P1 P2 : Nat → Prop) (q1 q2 : Qm) (W1 W2 : List Nat) (cs1 cs2 : List Value) (D : List Nat), m = 150 - i ∧ i ≤ 150 ∧ e = [(3, v), (9, .pointer (some ⟨g1.size, 0, none⟩)), (11, .pointer (some ⟨g3.size, 0, none⟩)), (13, .pointer (some ⟨b, 0, none⟩)), (15, .pointer (some ⟨b', 0, none⟩)), (17, .pointer (some ⟨g6.size, 0, none⟩)), (18, .int .i64 i)] ∧ Pair h g g6.size D P1 (.pointer (some ⟨b, 0, none⟩)) q1 W1 cs1 g1.size P2 (.pointer (some ⟨b', 0, none⟩)) q2 W2 cs2 g3.size) ?_ _ 150 _ _ (by omega) ⟨0, _, _, _, _, _, _, _, _, _, by omega, by omega, rfl, p0⟩
  clear p0 hW1 hW2 rf1 rf2 hv1 hv2 ov1 ov2 hcsE hcsE2 hwb1 hwb2
  clear k7 hd7 k3' k3 s1 s1' k2' k2 k1' k1
  rintro m e g again ⟨i, P1, P2, q1, q2, W1, W2, cs1, cs2, D, rfl, hi150, rfl, sc⟩ ih
  have hw1 : IntKind.i64.wrap ((i : Int) + 1) = ((i + 1 : Nat) : Int) := by rw [wrap_id (by omega) (by omega)]; rfl
  by_cases hlt : i < script.length ∧ i < 150
  · obtain ⟨x, hx⟩ : ∃ x, script[i]? = some x := ⟨_, List.getElem?_eq_getElem hlt.1⟩
    have hxs := hs x (List.mem_of_getElem? hx)
    have sg := SlR.imp s (ok' := fun b => b < h.size) (R' := StpC (fun b => b < h.size)) (h' := g) (fun _ _ q => q) (fun cs x _ q => StpC.imp q (fun _ _ q => q) (keep_of sc.a.kg.c (by simp))) (keep_of sc.a.kg.c (by simp))
    obtain ⟨bx, o, c, csx, es, lv, an, rfl, hk, hg, hle, hx5⟩ := sg.at' hx
    have hcl : ((csx.drop (o + i * 5)).take 5).length = 5 := by simp; omega
    have hgs := lt_of_get hg
    have hon : (csx.drop (o + i * 5 + 1)).take 1 = [.int .i64 x.on] := by
      obtain ⟨vc, vp, e, _⟩ := hx5
      have := congrArg (fun z => (z.drop 1).take 1) e
      simp only [List.drop_take, List.drop_drop, List.take_take] at this
      simpa using this
    by_cases hon0 : x.on = 0
    · obtain ⟨vq, hcs, hvq⟩ := sc.a.pl.rf
      have oq := hvq.one
      simp only [oneCell] at oq
      have hwat := sc.a.wat
      rw [hcs] at hwat
      have hws := lt_of_get hwat
      simp (disch := first | omega | (simp only [newRow_size, Array.size_setIfInBounds, Array.size_push]; done) | (simp only [newRow_size, Array.size_setIfInBounds, Array.size_push]; omega)) [l8_19, r8_11, hg, hl, eqT, eqF, neT, neF, ltT, ltF, leT, leF, nltT, nltF, nleT, nleF, nneT, nneF, List.getElem?_cons_zero, List.getElem?_cons_succ, r8_12, r8_13, hon, hon0, d8_14, hwat, oq]
      rw [← hcs]
      have hD5 := sc.a.pl.dk.lt
      refine Ans.nextE (plays_spec (F := F) (by omega) sc.a.pl sc.a.good sc.a.short hx5 ?_ hxs) ?_
      · intro c hc
        rcases List.mem_append.1 hc with r | r
        · have := sc.a.nW c r; omega
        · have := sc.a.nD c r; omega
      rintro u g8 ⟨cs', D', P', rfl, pl8, k8, hD', hP'⟩
      obtain ⟨vq', hcs', hvq'⟩ := pl8.rf
      have oq' := hvq'.one
      simp only [oneCell] at oq'
      have hwb8 := (k8.get hws (fun q => by
        rcases List.mem_append.1 q with r | r
        · exact sc.a.wW r
        · exact sc.a.wD r)).trans hwat
      have hwb8s := lt_of_get hwb8
      have pr := sc.play (sc.a.good.step x) (stepM_short sc.a.short sc.a.good x hxs.short) pl8 k8 hD' hP'
      rw [hcs']
      simp (disch := first | omega | (simp only [newRow_size, Array.size_setIfInBounds, Array.size_push]; done) | (simp only [newRow_size, Array.size_setIfInBounds, Array.size_push]; omega)) [hwb8, oq', eqT, eqF, neT, neF, ltT, ltF, leT, leF, nltT, nltF, nleT, nleF, nneT, nneF, List.getElem?_cons_zero, List.getElem?_cons_succ, r8_16, r8_18, hw1]
      rw [← hcs']
      exact ih (150 - (i + 1)) _ _ (by omega) ⟨i + 1, _, _, _, _, _, _, _, _, _, rfl, by omega, rfl, pr⟩
    · obtain ⟨vq, hcs, hvq⟩ := sc.b.pl.rf
      have oq := hvq.one
      simp only [oneCell] at oq
      have hwat := sc.b.wat
      rw [hcs] at hwat
      have hws := lt_of_get hwat
      simp (disch := first | omega | (simp only [newRow_size, Array.size_setIfInBounds, Array.size_push]; done) | (simp only [newRow_size, Array.size_setIfInBounds, Array.size_push]; omega)) [l8_19, r8_11, hg, hl, eqT, eqF, neT, neF, ltT, ltF, leT, leF, nltT, nltF, nleT, nleF, nneT, nneF, List.getElem?_cons_zero, List.getElem?_cons_succ, r8_12, r8_13, hon, hon0, d8_15, hwat, oq]
      rw [← hcs]
      have hD5 := sc.b.pl.dk.lt
      refine Ans.nextE (plays_spec (F := F) (by omega) sc.b.pl sc.b.good sc.b.short hx5 ?_ hxs) ?_
      · intro c hc
        rcases List.mem_append.1 hc with r | r
        · have := sc.b.nW c r; omega
        · have := sc.b.nD c r; omega
      rintro u g8 ⟨cs', D', P', rfl, pl8, k8, hD', hP'⟩
      obtain ⟨vq', hcs', hvq'⟩ := pl8.rf
      have oq' := hvq'.one
      simp only [oneCell] at oq'
      have hwb8 := (k8.get hws (fun q => by
        rcases List.mem_append.1 q with r | r
        · exact sc.b.wW r
        · exact sc.b.wD r)).trans hwat
      have hwb8s := lt_of_get hwb8
      have pr := sc.swap.play (sc.b.good.step x) (stepM_short sc.b.short sc.b.good x hxs.short) pl8 k8 hD' hP'
      rw [hcs']
      simp (disch := first | omega | (simp only [newRow_size, Array.size_setIfInBounds, Array.size_push]; done) | (simp only [newRow_size, Array.size_setIfInBounds, Array.size_push]; omega)) [hwb8, oq', eqT, eqF, neT, neF, ltT, ltF, leT, leF, nltT, nltF, nleT, nleF, nneT, nneF, List.getElem?_cons_zero, List.getElem?_cons_succ, r8_16, r8_18, hw1]
      rw [← hcs']
      exact ih (150 - (i + 1)) _ _ (by omega) ⟨i + 1, _, _, _, _, _, _, _, _, _, rfl, by omega, rfl, pr.swap⟩
  · have fin : ∀ (e : Env), Ans (evC F (cf F) (.seq (.region r8_20 [9, 11, 15, 20]) (.seq (.region r8_21 [9, 11, 20, 21]) (.seq (.region r8_22 [8]) .ret))) (endK (cfX XD) [ARes.tmp 8]) noK (endK (cfX XD) [ARes.tmp 8]) ((3, v) :: (9, .pointer (some ⟨g1.size, 0, none⟩)) :: (11, .pointer (some ⟨g3.size, 0, none⟩)) :: (13, .pointer (some ⟨b, 0, none⟩)) :: (15, .pointer (some ⟨b', 0, none⟩)) :: (17, .pointer (some ⟨g6.size, 0, none⟩)) :: (18, .int .i64 i) :: e) g []) Q := by
      intro e
      have hW1 := sc.a.pl.qs.lt
      have hW2 := sc.b.pl.qs.lt
      have hw1l := lt_of_get sc.a.wat
      have hw2l := lt_of_get sc.b.wat
      simp (disch := first | omega | (simp only [newRow_size, Array.size_setIfInBounds, Array.size_push]; done) | (simp only [newRow_size, Array.size_setIfInBounds, Array.size_push]; omega)) [r8_20]
      refine Ans.next (sc.a.pl.qs.next (F := F) (by omega) sc.a.good sc.a.short 99) ?_
      rintro u1 g10 ⟨su1, _, k10⟩
      have y10 := k10.1
      have qb := sc.b.pl.qs.kept k10 (fun c hc => ⟨sc.ww c hc, sc.wp1 c hc⟩)
      simp (disch := first | omega | (simp only [newRow_size, Array.size_setIfInBounds, Array.size_push]; done) | (simp only [newRow_size, Array.size_setIfInBounds, Array.size_push]; omega)) [r8_21]
      refine Ans.next (qb.next (F := F) (by omega) sc.b.good sc.b.short 99) ?_
      rintro u2 g11 ⟨su2, _, k11⟩
      have y11 := k11.1
      obtain ⟨vq1, hcs1, hvq1⟩ := sc.a.pl.rf
      have oq1 := hvq1.one
      simp only [oneCell] at oq1
      obtain ⟨vq2, hcs2, hvq2⟩ := sc.b.pl.rf
      have oq2 := hvq2.one
      simp only [oneCell] at oq2
      have hwa := (k11.get (by omega) sc.x1).trans ((k10.get hw1l sc.a.wW).trans sc.a.wat)
      have hwb := (k11.get (by omega) sc.b.wW).trans ((k10.get hw2l sc.x2).trans sc.b.wat)
      rw [hcs1] at hwa
      rw [hcs2] at hwb
      have rfa : RefC P1 g11 cs1 q1 := (sc.a.pl.rf.imp (fun _ _ q => q) (keep_of k10.c sc.a.pl.qs.okW)).imp (fun _ _ q => q) (keep_of k11.c sc.wp2)
      have rfb : RefC P2 g11 cs2 q2 := (sc.b.pl.rf.imp (fun _ _ q => q) (keep_of k10.c sc.wp1)).imp (fun _ _ q => q) (keep_of k11.c sc.b.pl.qs.okW)
      have su1 : SlR (since g.size) 5 (ItmC (since g.size)) g11 u1 (nextM q1 99) := SlItm.imp su1 (fun _ _ q => q) (keep_of k11.c (fun c hc q => by have := hW2 c hc; simp only [since] at q; omega))
      have l1 := sc.a.good.len
      have r1 := sc.a.good.room
      have l2 := sc.b.good.len
      have r2 := sc.b.good.room
      have sn1 : ShortI (nextM q1 99) := ⟨by unfold nextM; rw [List.length_take]; omega, fun t ht => sc.a.short.2 t (List.mem_of_mem_take ht)⟩
      have sn2 : ShortI (nextM q2 99) := ⟨by unfold nextM; rw [List.length_take]; omega, fun t ht => sc.b.short.2 t (List.mem_of_mem_take ht)⟩
      have hwas := lt_of_get hwa
      have hwbs := lt_of_get hwb
      simp (disch := first | omega | (simp only [newRow_size, Array.size_setIfInBounds, Array.size_push]; done) | (simp only [newRow_size, Array.size_setIfInBounds, Array.size_push]; omega)) [r8_22, hwa, oq1]
      rw [← hcs1]
      refine Ans.next (refNext_spec (F := F) (by omega) rfa (by omega) sc.a.short 99) ?_
      rintro u3 g12 ⟨b3, k12⟩
      have y12 := k12.1
      simp (disch := first | omega | (simp only [newRow_size, Array.size_setIfInBounds, Array.size_push]; done) | (simp only [newRow_size, Array.size_setIfInBounds, Array.size_push]; omega)) []
      refine Ans.next (items_same (F := F) (by omega) (SlItm.imp su1 (ok' := since g.size) (fun _ _ q => q) (keep_of k12.c (by simp))) b3.sl sn1) ?_
      rintro u4 g13 ⟨rfl, k13⟩
      have y13 := k13.1
      have k123 := k12.trans k13
      have hwb13 := (k123.get hwbs (by simp)).trans hwb
      simp (disch := first | omega | (simp only [newRow_size, Array.size_setIfInBounds, Array.size_push]; done) | (simp only [newRow_size, Array.size_setIfInBounds, Array.size_push]; omega)) [hwb13, oq2, eqT, eqF, neT, neF, ltT, ltF, leT, leF, nltT, nltF, nleT, nleF, nneT, nneF, List.getElem?_cons_zero, List.getElem?_cons_succ]
      rw [← hcs2]
      refine Ans.next (refNext_spec (F := F) (by omega) (rfb.imp (fun _ _ q => q) (keep_of k123.c (by simp))) (by omega) sc.b.short 99) ?_
      rintro u5 g14 ⟨b5, k14⟩
      have y14 := k14.1
      simp (disch := first | omega | (simp only [newRow_size, Array.size_setIfInBounds, Array.size_push]; done) | (simp only [newRow_size, Array.size_setIfInBounds, Array.size_push]; omega)) []
      refine Ans.next (items_same (F := F) (by omega) (SlItm.imp su2 (ok' := since g10.size) (fun _ _ q => q) (keep_of (k123.trans k14).c (by simp))) b5.sl sn2) ?_
      rintro u6 g15 ⟨rfl, k15⟩
      simp (disch := first | omega | (simp only [newRow_size, Array.size_setIfInBounds, Array.size_push]; done) | (simp only [newRow_size, Array.size_setIfInBounds, Array.size_push]; omega)) [eqT, eqF, neT, neF, ltT, ltF, leT, leF, nltT, nltF, nleT, nleF, nneT, nneF, List.getElem?_cons_zero, List.getElem?_cons_succ]
      refine Ans.next (known_spec (F := F) (by omega) g15) ?_
      rintro u h2 ⟨rfl, k2⟩
      simp (disch := first | omega | (simp only [newRow_size, Array.size_setIfInBounds, Array.size_push]; done) | (simp only [newRow_size, Array.size_setIfInBounds, Array.size_push]; omega)) []
      subst hQ
      exact Ans.of rfl
    by_cases h1' : i < script.length
    · simp (disch := first | omega | (simp only [newRow_size, Array.size_setIfInBounds, Array.size_push]; done) | (simp only [newRow_size, Array.size_setIfInBounds, Array.size_push]; omega)) [l8_19, r8_11, hl, eqT, eqF, neT, neF, ltT, ltF, leT, leF, nltT, nltF, nleT, nleF, nneT, nneF, List.getElem?_cons_zero, List.getElem?_cons_succ]
      exact fin _
    · simp (disch := first | omega | (simp only [newRow_size, Array.size_setIfInBounds, Array.size_push]; done) | (simp only [newRow_size, Array.size_setIfInBounds, Array.size_push]; omega)) [l8_19, r8_11, hl, eqT, eqF, neT, neF, ltT, ltF, leT, leF, nltT, nltF, nleT, nleF, nneT, nneF, List.getElem?_cons_zero, List.getElem?_cons_succ]
      exact fin _

end Go.Proofs.Ytkkagpchcefidaa

/- Ev23: what is handed in, cell by cell, with the form's own reach: how long the slices can be. -/
set_option linter.unusedSimpArgs false
set_option linter.unusedVariables false
namespace Go.Ev

mutual
/-- So many bytes: integers are taken as of eight. -/
def Ty.need : Ty → Nat
  | .int _ => 8
  | .bool => 1
  | .str => 16
  | .slice _ => 24
  | .struct fs => Ty.needs fs
def Ty.needs : List Ty → Nat
  | [] => 0
  | f :: fs => f.need + Ty.needs fs
end

mutual
/-- An element of the program's type takes at least so many bytes: for integers eight. -/
def tyB (P : Program) : Ty → TypeId → Bool
  | .int _, _ => true
  | .bool, _ => true
  | .str, _ => true
  | .slice e, t => match P.underlying t with
    | some (.slice el) => decide (e.need ≤ P.bytesOf el) && tyB P e el
    | _ => false
  | .struct fs, t => match P.underlying t with
    | some (.struct fields) => fieldsB P fs fields.toList
    | _ => false
def fieldsB (P : Program) : List Ty → List Field → Bool
  | y :: ys, f :: fs => tyB P y f.type && fieldsB P ys fs
  | _, _ => true
end

theorem weights_mem_all {HT : Type} {P : Program} {t : TypeId} : ∀ {ds : List (DataW HT)} {j : Nat} {d : DataW HT}, ds[j]? = some d → ∀ n ∈ d.weights P t, n ∈ DataW.weightsAll P t ds
  | d0 :: ds, 0, d, hd, n, hn => by
    simp only [List.getElem?_cons_zero, Option.some.injEq] at hd
    subst hd
    simp only [DataW.weightsAll, List.mem_append]
    exact Or.inl hn
  | d0 :: ds, j + 1, d, hd, n, hn => by
    simp only [List.getElem?_cons_succ] at hd
    simp only [DataW.weightsAll, List.mem_append]
    exact Or.inr (weights_mem_all hd n hn)
  | [], _, _, hd, _, _ => by simp at hd

mutual
/-- Cells of such a type, sizes within the reach. -/
def CellsZ (h : H) : Ty → List Value → Prop
  | .int k, cs => ∃ n, cs = [.int k n] ∧ (Lit.int k n).wf = true
  | .bool, cs => ∃ b, cs = [.bool b]
  | .str, cs => ∃ s : ByteArray, cs = [.string s] ∧ s.size ≤ maxLen
  | .slice e, cs => cs = [.slice none 0 0] ∨ cs = [.slice (some ⟨0, 0, some 0⟩) 0 0] ∨
      ∃ b o n c bs, cs = [.slice (some ⟨b, o, none⟩) n c] ∧ n ≤ c ∧ c ≤ maxLen ∧ n * e.need ≤ reachBytes ∧ b < h.size ∧ hget h b = some (.cells bs 0 false []) ∧ ∀ i, i < n → o + i * e.size + e.size ≤ bs.length ∧ CellsZ h e ((bs.drop (o + i * e.size)).take e.size)
  | .struct fs, cs => StructZ h fs cs
def StructZ (h : H) : List Ty → List Value → Prop
  | [], cs => cs = []
  | f :: fs, cs => f.size ≤ cs.length ∧ CellsZ h f (cs.take f.size) ∧ StructZ h fs (cs.drop f.size)
end

section
variable {HT : Type} {enc : TypeId × Value → HT} {P : Program} {W : World} {base : Nat} {held : Bool}

mutual
theorem open_cellsZ : ∀ (y : Ty) (t : TypeId), tyOk P y t = true → tyB P y t = true → ∀ {fuel : Nat} {cs : List Value} {x : DataW HT × List MemPlace}, DataW.trod enc P W base (fun _ => true) held fuel t cs = some x → (∀ n ∈ DataW.weights P t x.1, n ≤ reachBytes) →
    CellsZ (absH W) y (cs.map (absV W.heap.size)) ∧ cs.length = y.size
  | .int k, t, hy, hb, fuel, cs, x, h, hwt => by
    unfold tyOk at hy
    split at hy
    · rename_i k' ht
      have hk : k = k' := by simpa using hy
      subst hk
      obtain ⟨n, rfl, _, hw⟩ := DataW.trod_int ht h
      exact ⟨by simp only [CellsZ]; exact ⟨n, rfl, hw⟩, rfl⟩
    · cases hy
  | .bool, t, hy, hb, fuel, cs, x, h, hwt => by
    unfold tyOk at hy
    split at hy
    · rename_i ht
      obtain ⟨b, rfl, _⟩ := DataW.trod_bool ht h
      exact ⟨by simp only [CellsZ]; exact ⟨b, rfl⟩, rfl⟩
    · cases hy
  | .str, t, hy, hb, fuel, cs, x, h, hwt => by
    unfold tyOk at hy
    split at hy
    · rename_i ht
      obtain ⟨s, rfl, _, hw⟩ := DataW.trod_string ht h
      exact ⟨by simp only [CellsZ]; exact ⟨s, rfl, hw⟩, rfl⟩
    · cases hy
  | .slice e, t, hy, hb, fuel, cs, x, h, hwt => by
    unfold tyOk at hy
    split at hy
    · rename_i el ht
      simp only [Bool.and_eq_true, beq_iff_eq, decide_eq_true_eq] at hy
      obtain ⟨⟨hsz, hpos⟩, hel⟩ := hy
      unfold tyB at hb
      rw [ht] at hb
      simp only [Bool.and_eq_true, decide_eq_true_eq] at hb
      obtain ⟨hbn, hbe⟩ := hb
      rcases DataW.trod_slice ht h with ⟨rfl, _⟩ | ⟨a, len, cap, elems, rest, n, _, rfl, rfl, _, hlc, hcm, hlen, hE, hR, _⟩
      · exact ⟨by simp only [CellsZ]; exact .inl rfl, rfl⟩
      · refine ⟨?_, rfl⟩
        simp only [CellsZ]
        by_cases hc0 : cap = 0
        · subst hc0
          have : len = 0 := by omega
          subst this
          exact .inr (.inl rfl)
        · rw [hsz] at hE hR
          obtain ⟨hrl, hR⟩ := hR rfl
          have hrow : ∀ i, i < cap → ∃ row, W.cells? base (a.add (i * e.size)) e.size = some row := by
            intro i hi
            by_cases hil : i < len
            · have := hE i hil
              obtain ⟨q, hq⟩ : ∃ q, elems[i]? = some q := ⟨_, List.getElem?_eq_getElem (by omega)⟩
              rw [hq] at this
              obtain ⟨row, h1, _⟩ := Option.bind_eq_some_iff.1 this
              exact ⟨row, h1⟩
            · have := hR (i - len) (by omega)
              obtain ⟨q, hq⟩ : ∃ q, rest[i - len]? = some q := ⟨_, List.getElem?_eq_getElem (by omega)⟩
              rw [hq, show len + (i - len) = i by omega] at this
              obtain ⟨row, h1, _⟩ := Option.bind_eq_some_iff.1 this
              exact ⟨row, h1⟩
          obtain ⟨row0, h0⟩ := hrow 0 (by omega)
          rw [Nat.zero_mul, show a.add 0 = a from by simp [Addr.add]] at h0
          obtain ⟨arr, T, fr, hh, hsp, _, _⟩ := cells_row h0 hpos
          obtain ⟨b, o, sp⟩ := a
          simp only at hsp hh
          subst hsp
          have hbl : b < W.heap.size := (Array.getElem?_eq_some_iff.1 hh).1
          have hneed : len * e.need ≤ reachBytes := by
            have h1 := hwt ((elems.length + rest.length) * P.bytesOf el) (by simp [DataW.weights, ht])
            have h2 : len * e.need ≤ (elems.length + rest.length) * P.bytesOf el := Nat.mul_le_mul (by omega) hbn
            omega
          refine .inr (.inr ⟨b, o, len, cap, arr.toList.map (absV W.heap.size), ?_, hlc, hcm, hneed, by rw [absH_size]; exact hbl, ?_, ?_⟩)
          · simp only [List.map_cons, List.map_nil, absV]
            by_cases hl0 : len = 0
            · subst hl0
              cases cap with
              | zero => exact absurd rfl hc0
              | succ cap => simp [absV, hbl]
            · cases len with
              | zero => exact absurd rfl hl0
              | succ len => simp [absV, hbl, hlc]
          · show (W.heap.map (absB W.heap.size))[b]? = _
            rw [Array.getElem?_map, hh]; rfl
          · intro i hi
            obtain ⟨row, hr⟩ := hrow i (by omega)
            obtain ⟨arr', T', fr', hh', _, hsz', hrow'⟩ := cells_row hr hpos
            have hoff : ((⟨b, o, none⟩ : Addr).add (i * e.size)).off = o + i * e.size := by
              by_cases hz : i * e.size = 0
              · simp [Addr.add, hz]
              · simp [Addr.add, hz]
            have hblk : ((⟨b, o, none⟩ : Addr).add (i * e.size)).block = b := by
              by_cases hz : i * e.size = 0
              · simp [Addr.add, hz]
              · simp [Addr.add, hz]
            rw [hblk, hh] at hh'
            simp only [Option.some.injEq, Obj.cells.injEq] at hh'
            obtain ⟨rfl, _, _⟩ := hh'
            rw [hoff] at hsz' hrow'
            have hEi := hE i hi
            obtain ⟨q, hq⟩ : ∃ q, elems[i]? = some q := ⟨_, List.getElem?_eq_getElem (by omega)⟩
            rw [hq, hr] at hEi
            simp only [Option.bind_some] at hEi
            have hrec := (open_cellsZ e el hel hbe hEi (fun m hm => hwt m (by
              simp only [DataW.weights, ht, List.mem_cons, List.mem_append]
              refine .inr (.inl (weights_mem_all (j := i) (d := q.1) (by rw [List.getElem?_map, hq]; rfl) m hm))))).1
            refine ⟨by simpa using hsz', ?_⟩
            rw [hrow'] at hrec
            simpa [List.map_take, List.map_drop] using hrec
    · cases hy
  | .struct fs, t, hy, hb, fuel, cs, x, h, hwt => by
    unfold tyOk at hy
    split at hy
    · rename_i fields ht
      simp only [Bool.and_eq_true, beq_iff_eq] at hy
      obtain ⟨hsz, hf⟩ := hy
      unfold tyB at hb
      rw [ht] at hb
      simp only at hb
      obtain ⟨xs, n, _, rfl, hl, hlen, hi⟩ := DataW.trod_struct ht h
      rw [hsz] at hl
      refine ⟨?_, by simpa [Ty.size] using hl⟩
      simp only [CellsZ]
      have := open_fieldsZ fs fields.toList 0 hf hb (fuel := n) (cs := cs) (by omega) (fun i f hif => by
        have hif' : fields[i]? = some f := by simpa using hif
        have := hi i f hif'
        obtain ⟨q, hq⟩ : ∃ q, xs[i]? = some q := ⟨_, List.getElem?_eq_getElem (by
          have := (Array.getElem?_eq_some_iff.1 hif').1
          omega)⟩
        rw [hq] at this
        refine ⟨q, this, fun m hm => hwt m ?_⟩
        simp only [DataW.weights, ht]
        exact DataW.weights_mem_each (j := i) (t := f.type) (d := q.1) (by rw [List.getElem?_map, hif]; rfl) (by rw [List.getElem?_map, hq]; rfl) m hm)
      simpa using this
    · cases hy
theorem open_fieldsZ : ∀ (ys : List Ty) (fs : List Field) (o : Nat), fieldsOk P ys fs o = true → fieldsB P ys fs = true → ∀ {fuel : Nat} {cs : List Value}, cs.length = o + Ty.sizes ys →
    (∀ (i : Nat) (f : Field), fs[i]? = some f → ∃ x, DataW.trod enc P W base (fun _ => true) held fuel f.type ((cs.drop f.offset).take (P.cellsOf f.type)) = some x ∧ ∀ n ∈ DataW.weights P f.type x.1, n ≤ reachBytes) →
    StructZ (absH W) ys ((cs.drop o).map (absV W.heap.size))
  | [], [], o, _, _, fuel, cs, hl, _ => by
    simp only [StructZ, Ty.sizes] at hl ⊢
    simp; omega
  | [], _ :: _, _, h, _, _, _, _, _ => by simp [fieldsOk] at h
  | _ :: _, [], _, h, _, _, _, _, _ => by simp [fieldsOk] at h
  | y :: ys, f :: fs, o, h, hb, fuel, cs, hl, hx => by
    simp only [fieldsB, Bool.and_eq_true] at hb
    simp only [fieldsOk, Bool.and_eq_true, beq_iff_eq] at h
    obtain ⟨⟨⟨h1, h2⟩, h3⟩, h4⟩ := h
    simp only [Ty.sizes] at hl
    obtain ⟨x, hx0, hwx⟩ := hx 0 f rfl
    rw [h1, h2] at hx0
    have g1 := (open_cellsZ y f.type h3 hb.1 hx0 hwx).1
    have g2 := open_fieldsZ ys fs (o + y.size) h4 hb.2 (fuel := fuel) (cs := cs) (by omega) (fun i g hg => hx (i + 1) g (by simpa using hg))
    simp only [StructZ]
    refine ⟨by simp; omega, ?_, ?_⟩
    · simpa [List.map_take, List.map_drop] using g1
    · simpa [List.map_drop, List.drop_drop, Nat.add_comm] using g2
end

mutual
theorem cellsZ_plain {h : H} : ∀ (y : Ty) {cs : List Value}, CellsZ h y cs → cs.length = y.size ∧ ∀ x ∈ cs, oneCell x = true ∧ sameCell x x = true
  | .int k, cs, hc => by
    simp only [CellsZ] at hc
    obtain ⟨n, rfl, _⟩ := hc
    simp [Ty.size, oneCell, sameCell]
  | .bool, cs, hc => by
    simp only [CellsZ] at hc
    obtain ⟨n, rfl⟩ := hc
    simp [Ty.size, oneCell, sameCell]
  | .str, cs, hc => by
    simp only [CellsZ] at hc
    obtain ⟨n, rfl, _⟩ := hc
    refine ⟨rfl, fun x hx => ?_⟩
    rw [List.mem_singleton] at hx
    subst hx
    exact ⟨rfl, (MapKept.bytes_beq n n).2 rfl⟩
  | .slice e, cs, hc => by
    simp only [CellsZ] at hc
    rcases hc with rfl | rfl | ⟨b, o, n, c, bs, rfl, _⟩ <;> simp [Ty.size, oneCell, sameCell]
  | .struct fs, cs, hc => by
    simp only [CellsZ] at hc
    have := structZ_plain fs hc
    simpa [Ty.size] using this
theorem structZ_plain {h : H} : ∀ (ys : List Ty) {cs : List Value}, StructZ h ys cs → cs.length = Ty.sizes ys ∧ ∀ x ∈ cs, oneCell x = true ∧ sameCell x x = true
  | [], cs, hc => by
    simp only [StructZ] at hc
    subst hc
    simp [Ty.sizes]
  | y :: ys, cs, hc => by
    simp only [StructZ] at hc
    obtain ⟨h1, h2, h3⟩ := hc
    obtain ⟨a1, a2⟩ := cellsZ_plain y h2
    obtain ⟨b1, b2⟩ := structZ_plain ys h3
    refine ⟨by simp [Ty.sizes] at b1 ⊢; omega, fun x hx => ?_⟩
    rw [← List.take_append_drop y.size cs] at hx
    rcases List.mem_append.1 hx with hx | hx
    · exact a2 x hx
    · exact b2 x hx
end

/-- An argument. -/
theorem open_argZ {y : Ty} {t : TypeId} (hy : tyOk P y t = true) (hb : tyB P y t = true) {v : Value} {d : DataW HT} {p : List MemPlace} (h : DataW.Trod enc P W base (fun _ => true) held t v d p) (hw : ∀ n ∈ DataW.weights P t d, n ≤ reachBytes) : CellsZ (absH W) y (v.cells.toList.map (absV W.heap.size)) := by
  obtain ⟨fuel, h⟩ := h
  exact (open_cellsZ y t hy hb h hw).1

end

end Go.Ev

/- What is handed in: scripts of steps. -/
set_option linter.unusedVariables false
set_option linter.unusedSimpArgs false
namespace Go.Proofs.Ytkkagpchcefidaa
open Go.Ev Go.ChangeShapes Go.WideShapes Go.RowKit

theorem Try.own : ownKnob Try.prog.godebug = none := by kernel_rfl
theorem Try.laidOut : laidOutB Try.prog = true := by kernel_rfl

abbrev tI : Ty := .int .i64
def seenT : Ty := .struct [.str, .str, tI]
def shotT : Ty := .struct [tI, .str, tI, .slice seenT]
def partT : Ty := .struct [tI, shotT]
def changeT : Ty := .struct [tI, .str, .str, tI]
def taggedT : Ty := .struct [changeT, .slice tI]
def stepT : Ty := .struct [tI, tI, tI, .slice taggedT, .slice partT]
theorem step_ty : tyOk Try.prog (.slice stepT) 22 = true := by kernel_rfl
theorem step_tb : tyB Try.prog (.slice stepT) 22 = true := by kernel_rfl

theorem slR_of {e : Ty} {α : Type} {R : H → List Value → α → Prop} {S : α → Prop} {h : H} (hex : ∀ cs, CellsZ h e cs → ∃ x, R h cs x ∧ S x) {v : Value} (hc : CellsZ h (.slice e) [v]) :
    ∃ xs : List α, SlR (fun b => b < h.size) e.size R h v xs ∧ (∀ x ∈ xs, S x) ∧ xs.length * e.need ≤ reachBytes := by
  simp only [CellsZ] at hc
  rcases hc with e | e | ⟨b, o, n, c, bs, e, hnc, _, hz, hbs, hg, hi⟩
  · simp at e; subst e
    exact ⟨[], .inl ⟨.inl rfl, rfl⟩, by simp, by simp⟩
  · simp at e; subst e
    exact ⟨[], .inl ⟨.inr rfl, rfl⟩, by simp, by simp⟩
  · simp at e; subst e
    have hx : ∀ i, i < n → ∃ x, R h ((bs.drop (o + i * e.size)).take e.size) x ∧ S x := fun i hi' => hex _ (hi i hi').2
    refine ⟨(List.range n).attach.map fun i => Classical.choose (hx i.1 (List.mem_range.1 i.2)), .inr ⟨b, o, c, bs, by simp, by simpa using hnc, hbs, cel_of hg, ?_⟩, ?_, by simpa using hz⟩
    · intro i a ha
      simp only [List.getElem?_map, Option.map_eq_some_iff] at ha
      obtain ⟨⟨j, hj⟩, hj', rfl⟩ := ha
      have hij : i = j := by
        have := congrArg (Option.map Subtype.val) hj'
        rw [← List.getElem?_map, List.attach_map_subtype_val] at this
        have hlt := List.mem_range.1 hj
        obtain ⟨h1, h2⟩ := List.getElem?_eq_some_iff.1 (show (List.range n)[i]? = some j from this)
        simpa using h2
      subst hij
      have hlt := List.mem_range.1 hj
      exact ⟨(hi i hlt).1, (Classical.choose_spec (hx i hlt)).1⟩
    · intro x hx'
      simp only [List.mem_map] at hx'
      obtain ⟨⟨j, hj⟩, _, rfl⟩ := hx'
      exact (Classical.choose_spec (hx j (List.mem_range.1 hj))).2

abbrev below (h : H) : Nat → Prop := fun b => b < h.size

theorem open_ints {h : H} {v : Value} (hc : CellsZ h (.slice tI) [v]) : ∃ xs, SlR (below h) 1 IntC h v xs ∧ xs.length ≤ 17592186044416 := by
  obtain ⟨xs, s, _, hz⟩ := slR_of (R := IntC) (S := fun _ => True) (fun cs hc => by
    simp only [CellsZ] at hc
    obtain ⟨n, rfl, _⟩ := hc
    exact ⟨n, rfl, trivial⟩) hc
  have hn : tI.need = 8 := rfl
  rw [hn] at hz
  exact ⟨xs, s, by unfold reachBytes at hz; omega⟩

theorem open_seens {h : H} {v : Value} (hc : CellsZ h (.slice seenT) [v]) : ∃ xs, SlR (below h) 3 SeenC h v xs ∧ xs.length ≤ 3518437208883 := by
  obtain ⟨xs, s, _, hz⟩ := slR_of (R := SeenC) (S := fun _ => True) (fun cs hc => by
    have hl := (cellsZ_plain _ hc).1
    have hl : cs.length = 3 := hl
    simp only [seenT, CellsZ, StructZ, Ty.size] at hc
    obtain ⟨_, ⟨a, e1, _⟩, _, ⟨b, e2, _⟩, _, ⟨n, e3, _⟩, _⟩ := hc
    match cs, hl with
    | [c0, c1, c2], _ =>
      simp at e1 e2 e3
      subst e1 e2 e3
      exact ⟨⟨a, b, n⟩, rfl, trivial⟩) hc
  have hn : seenT.need = 40 := rfl
  rw [hn] at hz
  exact ⟨xs, s, by unfold reachBytes at hz; omega⟩

theorem open_tagged {h : H} {v : Value} (hc : CellsZ h (.slice taggedT) [v]) : ∃ xs, SlR (below h) 5 (TgdC (below h)) h v xs ∧ ShortT xs := by
  obtain ⟨xs, s, hs, hz⟩ := slR_of (R := TgdC (below h)) (S := fun t => t.tags.length ≤ 17592186044416) (fun cs hc => by
    have hl := (cellsZ_plain _ hc).1
    have hl : cs.length = 5 := hl
    simp only [taggedT, changeT, CellsZ, StructZ, Ty.size, Ty.sizes] at hc
    match cs, hl with
    | [c0, c1, c2, c3, c4], _ =>
      simp at hc
      obtain ⟨⟨⟨k, e1, _⟩, ⟨a, e2, _⟩, ⟨b, e3, _⟩, ⟨n, e4, _⟩⟩, hv⟩ := hc
      subst e1 e2 e3 e4
      obtain ⟨ts, st, hts⟩ := open_ints (h := h) (v := c4) (by simp only [CellsZ, Ty.size]; simpa using hv)
      exact ⟨⟨⟨k, a, b, n⟩, ts⟩, ⟨c4, rfl, st⟩, hts⟩) hc
  have hn : taggedT.need = 72 := rfl
  rw [hn] at hz
  exact ⟨xs, s, by unfold reachBytes at hz; omega, hs⟩

theorem open_parts {h : H} {v : Value} (hc : CellsZ h (.slice partT) [v]) : ∃ xs, SlR (below h) 5 (PrtC (below h)) h v xs ∧ ShortP xs := by
  obtain ⟨xs, s, hs, hz⟩ := slR_of (R := PrtC (below h)) (S := fun t => t.nodes.length ≤ 3518437208883) (fun cs hc => by
    have hl := (cellsZ_plain _ hc).1
    have hl : cs.length = 5 := hl
    simp only [partT, shotT, CellsZ, StructZ, Ty.size, Ty.sizes] at hc
    match cs, hl with
    | [c0, c1, c2, c3, c4], _ =>
      simp at hc
      obtain ⟨⟨k, e1, _⟩, ⟨n, e2, _⟩, ⟨a, e3, _⟩, ⟨m, e4, _⟩, hv⟩ := hc
      subst e1 e2 e3 e4
      obtain ⟨ts, st, hts⟩ := open_seens (h := h) (v := c4) (by simp only [CellsZ, Ty.size]; simpa using hv)
      exact ⟨⟨k, n, a, m, ts⟩, ⟨c4, rfl, st⟩, hts⟩) hc
  have hn : partT.need = 64 := rfl
  rw [hn] at hz
  exact ⟨xs, s, by unfold reachBytes at hz; omega, hs⟩

theorem open_steps {h : H} {v : Value} (hc : CellsZ h (.slice stepT) [v]) : ∃ xs, SlR (below h) 5 (StpC (below h)) h v xs ∧ ∀ s ∈ xs, s.Short := by
  obtain ⟨xs, s, hs, hz⟩ := slR_of (R := StpC (below h)) (S := Stp.Short) (fun cs hc => by
    have hl := (cellsZ_plain _ hc).1
    have hl : cs.length = 5 := hl
    simp only [stepT, CellsZ, StructZ, Ty.size, Ty.sizes] at hc
    match cs, hl with
    | [c0, c1, c2, c3, c4], _ =>
      simp at hc
      obtain ⟨⟨k, e1, _⟩, ⟨n, e2, _⟩, ⟨a, e3, _⟩, hv, hw⟩ := hc
      subst e1 e2 e3
      obtain ⟨ts, st, hts⟩ := open_tagged (h := h) (v := c3) (by simp only [CellsZ]; simpa using hv)
      obtain ⟨ps, sp, hps⟩ := open_parts (h := h) (v := c4) (by simp only [CellsZ]; simpa using hw)
      exact ⟨⟨k, n, a, ts, ps⟩, ⟨c3, c4, rfl, st, sp⟩, hts, hps⟩) hc
  exact ⟨xs, s, hs⟩

end Go.Proofs.Ytkkagpchcefidaa

/- A script, handed in. -/
set_option linter.unusedVariables false
set_option linter.unusedSimpArgs false
namespace Go.Proofs.Ytkkagpchcefidaa
open Go.Ev Go.ChangeShapes Go.WideShapes Go.RowKit

section
variable {HT : Type} {enc : TypeId × Value → HT} {W : World} {base : Nat} {held : Bool}

set_option maxRecDepth 100000 in
theorem open_script {base' : Nat} {v : Value} {d : DataW HT} {p : List MemPlace} (hv : Value.okWide Try.prog W .any base' 22 v) (h : DataW.Trod enc Try.prog W base (fun _ => true) held 22 v d p) (hw : ∀ n ∈ DataW.weights Try.prog 22 d, n ≤ reachBytes) :
    ∃ script, SlR (below (absH W)) 5 (StpC (below (absH W))) (absH W) (absA W.heap.size v) script ∧ ∀ s ∈ script, s.Short := by
  have hc := open_argZ step_ty step_tb h hw
  have hna : ∀ cs, v ≠ .agg cs := by
    intro cs e
    subst e
    unfold Value.okWide at hv
    rw [Try.underlying22] at hv
    simp [Cell.okWide, Cell.ok, Try.underlying22] at hv
  have hcs : v.cells.toList = [v] := by
    cases v <;> first | rfl | exact absurd rfl (hna _)
  have habs : absA W.heap.size v = absV W.heap.size v := by
    cases v <;> first | rfl | exact absurd rfl (hna _)
  rw [hcs] at hc
  rw [habs]
  exact open_steps hc

end

theorem weights_at {HT : Type} {P : Program} {ts : List TypeId} {ds : List (DataW HT)} (h : (DataW.weightsEach P ts ds).all (· ≤ reachBytes) = true) (j : Nat) {t : TypeId} {d : DataW HT} (ht : ts[j]? = some t) (hd : ds[j]? = some d) : ∀ n ∈ DataW.weights P t d, n ≤ reachBytes := fun n hn => by
  simpa using List.all_eq_true.1 h n (DataW.weights_mem_each ht hd n hn)

end Go.Proofs.Ytkkagpchcefidaa

/- What is handed in, cell by cell, where the second form bounds its bulk. -/
set_option linter.unusedSimpArgs false
set_option linter.unusedVariables false
namespace Go.Proofs.Ytkkagpchcefidaa.bulks

theorem one_le {HT : Type} (d : DataW HT) : 1 ≤ Rows.uptoBulk d := by
  cases d with
  | lit l => cases l <;> simp [Rows.uptoBulk]
  | _ => simp [Rows.uptoBulk]

theorem part_le {HT : Type} {d : DataW HT} {l : List (DataW HT)} (h : d ∈ l) : Rows.uptoBulk d ≤ Rows.uptoBulkAll l := by
  induction l with
  | nil => cases h
  | cons x r ih =>
    simp only [Rows.uptoBulkAll]
    rcases List.mem_cons.1 h with rfl | e
    · omega
    · have := ih e; omega

theorem length_le {HT : Type} (l : List (DataW HT)) : l.length ≤ Rows.uptoBulkAll l := by
  induction l with
  | nil => simp [Rows.uptoBulkAll]
  | cons x r ih => have := one_le x; simp only [Rows.uptoBulkAll, List.length_cons]; omega

theorem slice_le {HT : Type} (elems spare : List (DataW HT)) : elems.length + spare.length + 1 ≤ Rows.uptoBulk (.slice elems spare) := by
  have h1 := length_le elems
  have h2 := length_le spare
  simp only [Rows.uptoBulk]
  omega
theorem slice_elems {HT : Type} (elems spare : List (DataW HT)) : Rows.uptoBulkAll elems + 1 ≤ Rows.uptoBulk (.slice elems spare) := by
  simp only [Rows.uptoBulk]
  omega

theorem bound {HT : Type} {l : List (DataW HT)} (hk : Rows.uptoSmall HT l = true) : Rows.uptoBulkAll l ≤ 1048576 := of_decide_eq_true hk

end Go.Proofs.Ytkkagpchcefidaa.bulks
namespace Go.Proofs.Ytkkagpchcefidaa
open Go.Ev

mutual
/-- Cells of such a type, no list longer than the bulk allows. -/
def CellsB (h : H) : Ty → List Value → Prop
  | .int k, cs => ∃ n, cs = [.int k n] ∧ (Lit.int k n).wf = true
  | .bool, cs => ∃ b, cs = [.bool b]
  | .str, cs => ∃ s : ByteArray, cs = [.string s] ∧ s.size ≤ maxLen
  | .slice e, cs => cs = [.slice none 0 0] ∨ cs = [.slice (some ⟨0, 0, some 0⟩) 0 0] ∨
      ∃ b o n c bs, cs = [.slice (some ⟨b, o, none⟩) n c] ∧ n ≤ c ∧ c ≤ maxLen ∧ n ≤ 1048576 ∧ b < h.size ∧ hget h b = some (.cells bs 0 false []) ∧ ∀ i, i < n → o + i * e.size + e.size ≤ bs.length ∧ CellsB h e ((bs.drop (o + i * e.size)).take e.size)
  | .struct fs, cs => StructB h fs cs
def StructB (h : H) : List Ty → List Value → Prop
  | [], cs => cs = []
  | f :: fs, cs => f.size ≤ cs.length ∧ CellsB h f (cs.take f.size) ∧ StructB h fs (cs.drop f.size)
end

section
variable {HT : Type} {enc : TypeId × Value → HT} {P : Program} {W : World} {base : Nat} {held : Bool}

mutual
theorem open_cellsB : ∀ (y : Ty) (t : TypeId), tyOk P y t = true → ∀ {fuel : Nat} {cs : List Value} {x : DataW HT × List MemPlace}, DataW.trod enc P W base (fun _ => true) held fuel t cs = some x → Rows.uptoBulk x.1 ≤ 1048576 →
    CellsB (absH W) y (cs.map (absV W.heap.size)) ∧ cs.length = y.size
  | .int k, t, hy, fuel, cs, x, h, hwt => by
    unfold tyOk at hy
    split at hy
    · rename_i k' ht
      have hk : k = k' := by simpa using hy
      subst hk
      obtain ⟨n, rfl, _, hw⟩ := DataW.trod_int ht h
      exact ⟨by simp only [CellsB]; exact ⟨n, rfl, hw⟩, rfl⟩
    · cases hy
  | .bool, t, hy, fuel, cs, x, h, hwt => by
    unfold tyOk at hy
    split at hy
    · rename_i ht
      obtain ⟨b, rfl, _⟩ := DataW.trod_bool ht h
      exact ⟨by simp only [CellsB]; exact ⟨b, rfl⟩, rfl⟩
    · cases hy
  | .str, t, hy, fuel, cs, x, h, hwt => by
    unfold tyOk at hy
    split at hy
    · rename_i ht
      obtain ⟨s, rfl, _, hw⟩ := DataW.trod_string ht h
      exact ⟨by simp only [CellsB]; exact ⟨s, rfl, hw⟩, rfl⟩
    · cases hy
  | .slice e, t, hy, fuel, cs, x, h, hwt => by
    unfold tyOk at hy
    split at hy
    · rename_i el ht
      simp only [Bool.and_eq_true, beq_iff_eq, decide_eq_true_eq] at hy
      obtain ⟨⟨hsz, hpos⟩, hel⟩ := hy
      rcases DataW.trod_slice ht h with ⟨rfl, _⟩ | ⟨a, len, cap, elems, rest, n, _, rfl, rfl, _, hlc, hcm, hlen, hE, hR, _⟩
      · exact ⟨by simp only [CellsB]; exact .inl rfl, rfl⟩
      · refine ⟨?_, rfl⟩
        simp only [CellsB]
        by_cases hc0 : cap = 0
        · subst hc0
          have : len = 0 := by omega
          subst this
          exact .inr (.inl rfl)
        · rw [hsz] at hE hR
          obtain ⟨hrl, hR⟩ := hR rfl
          have hrow : ∀ i, i < cap → ∃ row, W.cells? base (a.add (i * e.size)) e.size = some row := by
            intro i hi
            by_cases hil : i < len
            · have := hE i hil
              obtain ⟨q, hq⟩ : ∃ q, elems[i]? = some q := ⟨_, List.getElem?_eq_getElem (by omega)⟩
              rw [hq] at this
              obtain ⟨row, h1, _⟩ := Option.bind_eq_some_iff.1 this
              exact ⟨row, h1⟩
            · have := hR (i - len) (by omega)
              obtain ⟨q, hq⟩ : ∃ q, rest[i - len]? = some q := ⟨_, List.getElem?_eq_getElem (by omega)⟩
              rw [hq, show len + (i - len) = i by omega] at this
              obtain ⟨row, h1, _⟩ := Option.bind_eq_some_iff.1 this
              exact ⟨row, h1⟩
          obtain ⟨row0, h0⟩ := hrow 0 (by omega)
          rw [Nat.zero_mul, show a.add 0 = a from by simp [Addr.add]] at h0
          obtain ⟨arr, T, fr, hh, hsp, _, _⟩ := cells_row h0 hpos
          obtain ⟨b, o, sp⟩ := a
          simp only at hsp hh
          subst hsp
          have hbl : b < W.heap.size := (Array.getElem?_eq_some_iff.1 hh).1
          have hneed : len ≤ 1048576 := by
            have h1 := bulks.slice_le (elems.map (·.1)) (rest.map (·.1))
            simp only [List.length_map] at h1
            have h2 : Rows.uptoBulk (DataW.slice (elems.map (·.1)) (rest.map (·.1))) ≤ 1048576 := hwt
            omega
          refine .inr (.inr ⟨b, o, len, cap, arr.toList.map (absV W.heap.size), ?_, hlc, hcm, hneed, by rw [absH_size]; exact hbl, ?_, ?_⟩)
          · simp only [List.map_cons, List.map_nil, absV]
            by_cases hl0 : len = 0
            · subst hl0
              cases cap with
              | zero => exact absurd rfl hc0
              | succ cap => simp [absV, hbl]
            · cases len with
              | zero => exact absurd rfl hl0
              | succ len => simp [absV, hbl, hlc]
          · show (W.heap.map (absB W.heap.size))[b]? = _
            rw [Array.getElem?_map, hh]; rfl
          · intro i hi
            obtain ⟨row, hr⟩ := hrow i (by omega)
            obtain ⟨arr', T', fr', hh', _, hsz', hrow'⟩ := cells_row hr hpos
            have hoff : ((⟨b, o, none⟩ : Addr).add (i * e.size)).off = o + i * e.size := by
              by_cases hz : i * e.size = 0
              · simp [Addr.add, hz]
              · simp [Addr.add, hz]
            have hblk : ((⟨b, o, none⟩ : Addr).add (i * e.size)).block = b := by
              by_cases hz : i * e.size = 0
              · simp [Addr.add, hz]
              · simp [Addr.add, hz]
            rw [hblk, hh] at hh'
            simp only [Option.some.injEq, Obj.cells.injEq] at hh'
            obtain ⟨rfl, _, _⟩ := hh'
            rw [hoff] at hsz' hrow'
            have hEi := hE i hi
            obtain ⟨q, hq⟩ : ∃ q, elems[i]? = some q := ⟨_, List.getElem?_eq_getElem (by omega)⟩
            rw [hq, hr] at hEi
            simp only [Option.bind_some] at hEi
            have hrec := (open_cellsB e el hel hEi (by
              have h1 := bulks.slice_elems (elems.map (·.1)) (rest.map (·.1))
              have h2 : Rows.uptoBulk (DataW.slice (elems.map (·.1)) (rest.map (·.1))) ≤ 1048576 := hwt
              have h3 := bulks.part_le (l := elems.map (·.1)) (d := q.1) (List.mem_map_of_mem (List.mem_of_getElem? hq))
              omega)).1
            refine ⟨by simpa using hsz', ?_⟩
            rw [hrow'] at hrec
            simpa [List.map_take, List.map_drop] using hrec
    · cases hy
  | .struct fs, t, hy, fuel, cs, x, h, hwt => by
    unfold tyOk at hy
    split at hy
    · rename_i fields ht
      simp only [Bool.and_eq_true, beq_iff_eq] at hy
      obtain ⟨hsz, hf⟩ := hy
      obtain ⟨xs, n, _, rfl, hl, hlen, hi⟩ := DataW.trod_struct ht h
      rw [hsz] at hl
      refine ⟨?_, by simpa [Ty.size] using hl⟩
      simp only [CellsB]
      have := open_fieldsB fs fields.toList 0 hf (fuel := n) (cs := cs) (by omega) (fun i f hif => by
        have hif' : fields[i]? = some f := by simpa using hif
        have := hi i f hif'
        obtain ⟨q, hq⟩ : ∃ q, xs[i]? = some q := ⟨_, List.getElem?_eq_getElem (by
          have := (Array.getElem?_eq_some_iff.1 hif').1
          omega)⟩
        rw [hq] at this
        refine ⟨q, this, ?_⟩
        have h2 : Rows.uptoBulk (DataW.agg (xs.map (·.1))) ≤ 1048576 := hwt
        simp only [Rows.uptoBulk] at h2
        have h3 := bulks.part_le (l := xs.map (·.1)) (d := q.1) (List.mem_map_of_mem (List.mem_of_getElem? hq))
        omega)
      simpa using this
    · cases hy
theorem open_fieldsB : ∀ (ys : List Ty) (fs : List Field) (o : Nat), fieldsOk P ys fs o = true → ∀ {fuel : Nat} {cs : List Value}, cs.length = o + Ty.sizes ys →
    (∀ (i : Nat) (f : Field), fs[i]? = some f → ∃ x, DataW.trod enc P W base (fun _ => true) held fuel f.type ((cs.drop f.offset).take (P.cellsOf f.type)) = some x ∧ Rows.uptoBulk x.1 ≤ 1048576) →
    StructB (absH W) ys ((cs.drop o).map (absV W.heap.size))
  | [], [], o, _, fuel, cs, hl, _ => by
    simp only [StructB, Ty.sizes] at hl ⊢
    simp; omega
  | [], _ :: _, _, h, _, _, _, _ => by simp [fieldsOk] at h
  | _ :: _, [], _, h, _, _, _, _ => by simp [fieldsOk] at h
  | y :: ys, f :: fs, o, h, fuel, cs, hl, hx => by
    simp only [fieldsOk, Bool.and_eq_true, beq_iff_eq] at h
    obtain ⟨⟨⟨h1, h2⟩, h3⟩, h4⟩ := h
    simp only [Ty.sizes] at hl
    obtain ⟨x, hx0, hwx⟩ := hx 0 f rfl
    rw [h1, h2] at hx0
    have g1 := (open_cellsB y f.type h3 hx0 hwx).1
    have g2 := open_fieldsB ys fs (o + y.size) h4 (fuel := fuel) (cs := cs) (by omega) (fun i g hg => hx (i + 1) g (by simpa using hg))
    simp only [StructB]
    refine ⟨by simp; omega, ?_, ?_⟩
    · simpa [List.map_take, List.map_drop] using g1
    · simpa [List.map_drop, List.drop_drop, Nat.add_comm] using g2
end

mutual
theorem cellsB_plain {h : H} : ∀ (y : Ty) {cs : List Value}, CellsB h y cs → cs.length = y.size ∧ ∀ x ∈ cs, oneCell x = true ∧ sameCell x x = true
  | .int k, cs, hc => by
    simp only [CellsB] at hc
    obtain ⟨n, rfl, _⟩ := hc
    simp [Ty.size, oneCell, sameCell]
  | .bool, cs, hc => by
    simp only [CellsB] at hc
    obtain ⟨n, rfl⟩ := hc
    simp [Ty.size, oneCell, sameCell]
  | .str, cs, hc => by
    simp only [CellsB] at hc
    obtain ⟨n, rfl, _⟩ := hc
    refine ⟨rfl, fun x hx => ?_⟩
    rw [List.mem_singleton] at hx
    subst hx
    exact ⟨rfl, (MapKept.bytes_beq n n).2 rfl⟩
  | .slice e, cs, hc => by
    simp only [CellsB] at hc
    rcases hc with rfl | rfl | ⟨b, o, n, c, bs, rfl, _⟩ <;> simp [Ty.size, oneCell, sameCell]
  | .struct fs, cs, hc => by
    simp only [CellsB] at hc
    have := structB_plain fs hc
    simpa [Ty.size] using this
theorem structB_plain {h : H} : ∀ (ys : List Ty) {cs : List Value}, StructB h ys cs → cs.length = Ty.sizes ys ∧ ∀ x ∈ cs, oneCell x = true ∧ sameCell x x = true
  | [], cs, hc => by
    simp only [StructB] at hc
    subst hc
    simp [Ty.sizes]
  | y :: ys, cs, hc => by
    simp only [StructB] at hc
    obtain ⟨h1, h2, h3⟩ := hc
    obtain ⟨a1, a2⟩ := cellsB_plain y h2
    obtain ⟨b1, b2⟩ := structB_plain ys h3
    refine ⟨by simp [Ty.sizes] at b1 ⊢; omega, fun x hx => ?_⟩
    rw [← List.take_append_drop y.size cs] at hx
    rcases List.mem_append.1 hx with hx | hx
    · exact a2 x hx
    · exact b2 x hx
end

/-- An argument. -/
theorem open_argB {y : Ty} {t : TypeId} (hy : tyOk P y t = true) {v : Value} {d : DataW HT} {p : List MemPlace} (h : DataW.Trod enc P W base (fun _ => true) held t v d p) (hw : Rows.uptoBulk d ≤ 1048576) : CellsB (absH W) y (v.cells.toList.map (absV W.heap.size)) := by
  obtain ⟨fuel, h⟩ := h
  exact (open_cellsB y t hy h hw).1

end


end Go.Proofs.Ytkkagpchcefidaa
