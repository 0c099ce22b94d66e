/- Several texts in one: Ld11, Ev23, Lo0. -/
import Derived.SizedLaws
import Derived.Deep.Strs
import Derived.Test.YtmenfnapbggglaaM8

/- only: a script on a new line; the laws over one script. -/
set_option linter.unusedSimpArgs false
set_option linter.unusedVariables false
namespace Go.Proofs.Ytmenfnapbggglaa
open Go.Ev

theorem StpC.imp {OL OL' : Nat → Prop} {h h' : H} {xcs : List Value} {x : Stp} (s : StpC OL h xcs x) (h1 : ∀ b, b < h.size → OL b → OL' b) (h3 : ∀ b cs, OL b → cel h b = some cs → cel h' b = some cs) : StpC OL' h' xcs x := by
  obtain ⟨v, e, s⟩ := s
  exact ⟨v, e, SlM.imp s h1 h3⟩

theorem desk_new {h : H} {d : Nat} (hd : hget h d = some (.cells [.slice none 0 0] 0 true [])) : DeskS h d [d] :=
  ⟨_, 0, [], [], hd, .inl ⟨rfl, rfl, rfl, rfl⟩, by simp, by simp, by simp, by omega, rfl⟩

/-- A line in a script, with the document's line in a block of its own; all of it newer than h. -/
structure Sc (h : H) (P : Nat → Prop) (g : H) (lv : Value) (fl : Flight) (last : Int) (nn : Bool) (W : List Nat) (cs : List Value) (d : Nat) (D : List Nat) (wb : Nat) : Prop where
  pl : PlS P g lv fl last nn W cs d D
  good : Gd fl last
  wat : hget g wb = some (.cells cs 0 true [])
  wP : ¬ P wb
  wW : wb ∉ W
  wD : wb ∉ D
  kg : Kept h g []
  nW : ∀ c ∈ W, h.size ≤ c
  nD : ∀ c ∈ D, h.size ≤ c
  nw : h.size ≤ wb

/-- What is left behind a step: the answer lies in nb, and then in wb. -/
theorem Sc.step {h g g1 g2 g4 : H} {P : Nat → Prop} {lv : Value} {fl fl' : Flight} {last last' : Int} {nn : Bool} {W : List Nat} {cs : List Value} {d : Nat} {D : List Nat} {wb : Nat} (s : Sc h P g lv fl last nn W cs d D wb) (hq : Gd fl' last')
    (k1 : Kept g g1 []) {cs' : List Value} {W' D' : List Nat} {P' : Nat → Prop} (pl : PlS P' g2 lv fl' last' nn W' cs' d D') (k2 : Kept g1 g2 (W ++ D)) (hW' : ∀ c ∈ W', c ∈ W ∨ g1.size ≤ c) (hD' : ∀ c ∈ D', c ∈ D ∨ g1.size ≤ c) (hP' : ∀ c, P' c → P c ∨ g1.size ≤ c)
    {L : List Nat} (k4 : Kept g2 g4 L) (hL : ∀ c ∈ L, c = wb ∨ (g.size ≤ c ∧ c < g1.size)) (hw : hget g4 wb = some (.cells cs' 0 true [])) : Sc h P' g4 lv fl' last' nn W' cs' d D' wb := by
  have y0 := s.kg.1
  have y1 := k1.1
  have y2 := k2.1
  have y4 := k4.1
  have hwl := lt_of_get s.wat
  have hWl := s.pl.ls.lt
  have hDl := s.pl.dk.lt
  have hL2 : ∀ c ∈ L, c ∉ W' ∧ c ∉ D' ∧ ¬ P' c := by
    intro c hc
    rcases hL c hc with rfl | ⟨r1, r2⟩
    · refine ⟨fun q => ?_, fun q => ?_, fun q => ?_⟩
      · rcases hW' _ q with r | r
        · exact s.wW r
        · omega
      · rcases hD' _ q with r | r
        · exact s.wD r
        · omega
      · rcases hP' _ q with r | r
        · exact s.wP r
        · omega
    · refine ⟨fun q => ?_, fun q => ?_, fun q => ?_⟩
      · rcases hW' _ q with r | r
        · have := hWl _ r; omega
        · omega
      · rcases hD' _ q with r | r
        · have := hDl _ r; omega
        · omega
      · rcases hP' _ q with r | r
        · have := s.pl.plt _ r; omega
        · omega
  refine ⟨pl.kept k4 hL2, hq, hw, ?_, ?_, ?_, ⟨by omega, fun c hc _ => ?_⟩, ?_, ?_, s.nw⟩
  · intro q
    rcases hP' _ q with r | r
    · exact s.wP r
    · omega
  · intro q
    rcases hW' _ q with r | r
    · exact s.wW r
    · omega
  · intro q
    rcases hD' _ q with r | r
    · exact s.wD r
    · omega
  · have a1 : c ∉ L := fun q => by
      have := s.nw
      rcases hL c q with rfl | ⟨r1, r2⟩ <;> omega
    have a2 : c ∉ W ++ D := fun q => by
      rcases List.mem_append.1 q with r | r
      · have := s.nW c r; omega
      · have := s.nD c r; omega
    exact (k4.get (by omega) a1).trans ((k2.get (by omega) a2).trans ((k1.get (by omega) (by simp)).trans (s.kg.get hc (by simp))))
  · intro c hc
    rcases hW' c hc with r | r
    · exact s.nW c r
    · omega
  · intro c hc
    rcases hD' c hc with r | r
    · exact s.nD c r
    · omega

theorem knownK {F : Nat} (hF : 4 ≤ F) (h : H) : Ans (cf F 21 [] h) fun r h' => r = .bool true ∧ Kept h h' [] := by
  obtain ⟨F, rfl⟩ : ∃ G, F = G + 1 + 2 + 1 := ⟨F - 4, by omega⟩
  refine (known_spec F h).mono ?_
  rintro v h' ⟨e, k⟩
  exact ⟨e, k.kept (by simp)⟩

set_option maxHeartbeats 1000000 in
theorem only_spec {F : Nat} (hF : 3002 ≤ F) {h : H} (lo hi : Int) {ok : Nat → Prop} {v : Value} {script : List Stp} (s : SlR ok 6 (StpC ok) h v script) :
    Ans (cf F 23 [v, .int .i64 lo, .int .i64 hi] h) fun u h' => u = .bool true ∧ Kept h h' [] := by
  generalize hQ : (fun (u : Value) (h' : H) => u = Value.bool true ∧ Kept h h' []) = Q
  obtain ⟨F, rfl⟩ : ∃ G, F = G + 1 := ⟨F - 1, by omega⟩
  rw [cf_step (a := a23) rfl rfl (by simp [a23])]
  have hl := s.len
  have hnew : ∀ h, cf F 15 [] h = some (.pointer (some ⟨h.size, 0, none⟩), Ev.newRow h [.map none, .int .i64 0] 0 []) := by
    obtain ⟨F, rfl⟩ : ∃ G, F = G + 1 := ⟨F - 1, by omega⟩
    exact fun h => new_eq F h
  simp (disch := first | omega | (simp only [newRow_size, Array.size_setIfInBounds, Array.size_push]; done) | (simp only [newRow_size, Array.size_setIfInBounds, Array.size_push]; omega)) [a23, r23_0, r23_1, hnew, r23_2, nilEq, eqT, eqF, neT, neF, ltT, ltF, leT, leF, nltT, nltF, nleT, nleF, nneT, nneF, List.getElem?_cons_zero, List.getElem?_cons_succ, r23_4]
  have hl1 : hget (Ev.newRow h [.map none, .int .i64 0] 0 []) h.size = some (.cells [.map none, .int .i64 0] 0 true []) := by simp
  have k1 := rowKept h [.map none, .int .i64 0] 0 []
  have z1 : (Ev.newRow h [.map none, .int .i64 0] 0 []).size = h.size + 1 := by simp
  generalize Ev.newRow h [.map none, .int .i64 0] 0 [] = g1 at hl1 k1 z1 ⊢
  refine Ans.next (refNew_spec (F := F) (by omega) g1) ?_
  rintro u g2 ⟨rfl, k2⟩
  have y2 := k2.1
  simp (disch := first | omega | (simp only [newRow_size, Array.size_setIfInBounds, Array.size_push]; done) | (simp only [newRow_size, Array.size_setIfInBounds, Array.size_push]; omega)) [eqT, eqF, neT, neF, ltT, ltF, leT, leF, nltT, nltF, nleT, nleF, nneT, nneF, List.getElem?_cons_zero, List.getElem?_cons_succ, r23_5]
  generalize hzz : [Value.slice none 0 0, .int .i64 0, .bool false] = zz
  have hwb : hget (Ev.newRow (Ev.newRow g2 zz 0 []) [.slice none 0 0] 0 []) g2.size = some (.cells zz 0 true []) := by simp (disch := first | omega | (simp only [newRow_size, Array.size_setIfInBounds, Array.size_push]; done) | (simp only [newRow_size, Array.size_setIfInBounds, Array.size_push]; omega)) []
  have hd : hget (Ev.newRow (Ev.newRow g2 zz 0 []) [.slice none 0 0] 0 []) (g2.size + 1) = some (.cells [.slice none 0 0] 0 true []) := by simp (disch := first | omega | (simp only [newRow_size, Array.size_setIfInBounds, Array.size_push]; done) | (simp only [newRow_size, Array.size_setIfInBounds, Array.size_push]; omega)) []
  have k3 : Kept g2 (Ev.newRow (Ev.newRow g2 zz 0 []) [.slice none 0 0] 0 []) [] := kept_row (rowKept _ _ _ _) _ _ _
  have z3 : (Ev.newRow (Ev.newRow g2 zz 0 []) [.slice none 0 0] 0 []).size = g2.size + 2 := by simp
  generalize Ev.newRow (Ev.newRow g2 zz 0 []) [.slice none 0 0] 0 [] = g3 at hwb hd k3 z3 ⊢
  subst hzz
  have k23 := k2.trans k3
  have hl3 := (k23.get (by omega) (by simp)).trans hl1
  have sc0 : Sc h (fun _ => False) g3 (.pointer (some ⟨h.size, 0, none⟩)) [] 0 false [h.size] [.slice none 0 0, .int .i64 0, .bool false] (g2.size + 1) [g2.size + 1] g2.size := by
    refine ⟨⟨.inr ⟨h.size, none, rfl, rfl, ⟨hl3, fun _ => rfl, nofun⟩, rfl⟩, ⟨_, rfl, .inl ⟨.inl rfl, rfl⟩⟩, desk_new hd, by simp, ?_, by simp, fun c q => q.elim⟩, Gd.nil, hwb, by simp, ?_, by simp, k1.trans k23, by simp, ?_, by omega⟩
    · intro c hc q
      simp at hc q
      omega
    · simp; omega
    · intro c hc
      simp at hc
      omega
  refine loop_rule (fun m e g => ∃ (i : Nat) (P : Nat → Prop) (fl : Flight) (last : Int) (W : List Nat) (cs : List Value) (D : List Nat), m = 120 - i ∧ i ≤ 120 ∧ last ≤ 300 * i ∧ e = [(0, v), (1, .int .i64 lo), (2, .int .i64 hi), (7, .pointer (some ⟨h.size, 0, none⟩)), (8, .pointer (some ⟨g2.size, 0, none⟩)), (9, .pointer (some ⟨g2.size + 1, 0, none⟩)), (10, .int .i64 i)] ∧ Sc h P g (.pointer (some ⟨h.size, 0, none⟩)) fl last false W cs (g2.size + 1) D g2.size) ?_ _ 120 _ _ (by omega) ⟨0, _, _, _, _, _, _, by omega, by omega, by omega, rfl, sc0⟩
  clear sc0
  rintro m e g again ⟨i, P, fl, last, W, cs, D, rfl, hi120, hlast, rfl, sc⟩ ih
  have hw1 : IntKind.i64.wrap ((i : Int) + 1) = ((i + 1 : Nat) : Int) := by rw [wrap_id (by omega) (by omega)]; rfl
  by_cases hlt : i < script.length ∧ i < 120
  · obtain ⟨x, hx⟩ : ∃ x, script[i]? = some x := ⟨_, List.getElem?_eq_getElem hlt.1⟩
    have sg := SlR.imp s (ok' := fun c => ok c ∧ c < h.size) (R' := StpC (fun c => ok c ∧ c < h.size)) (h' := g) (fun c hc q => ⟨q, hc⟩) (fun cs x _ q => StpC.imp q (fun c hc q => ⟨q, hc⟩) (keep_of sc.kg.c (by simp))) (keep_of sc.kg.c (by simp))
    obtain ⟨b', o, c, csx, es, lv, an, rfl, hk, hg, hle, hx5⟩ := sg.at' hx
    have hcl : ((csx.drop (o + i * 6)).take 6).length = 6 := by simp; omega
    obtain ⟨vq, hcs, hvq⟩ := sc.pl.rf
    have oq := hvq.one
    simp only [oneCell] at oq
    have hwat := sc.wat
    rw [hcs] at hwat
    have hgs := lt_of_get hg
    have hws := lt_of_get hwat
    simp (disch := first | omega | (simp only [newRow_size, Array.size_setIfInBounds, Array.size_push]; done) | (simp only [newRow_size, Array.size_setIfInBounds, Array.size_push]; omega)) [l23_13, r23_7, hg, hl, eqT, eqF, neT, neF, ltT, ltF, leT, leF, nltT, nltF, nleT, nleF, nneT, nneF, List.getElem?_cons_zero, List.getElem?_cons_succ, d23_8, hwat, oq]
    rw [← hcs]
    have k5 := rowKept g [.slice none 0 0, .int .i64 0, .bool false] 0 []
    have hnb : hget (Ev.newRow g [.slice none 0 0, .int .i64 0, .bool false] 0 []) g.size = some (.cells [.slice none 0 0, .int .i64 0, .bool false] 0 true []) := by simp
    have z5 : (Ev.newRow g [.slice none 0 0, .int .i64 0, .bool false] 0 []).size = g.size + 1 := by simp
    generalize Ev.newRow g [.slice none 0 0, .int .i64 0, .bool false] 0 [] = g5 at k5 hnb z5 ⊢
    have hx6 := StpC.imp hx5 (OL' := fun c => ok c ∧ c < h.size) (fun _ _ q => q) (keep_of k5.c (by simp))
    have hW5 := sc.pl.ls.lt
    have hD5 := sc.pl.dk.lt
    refine Ans.nextE (plays_spec (F := F) (by omega) (sc.pl.kept k5 (by simp)) sc.good (by omega) hx6) ?_
    rintro u g6 ⟨cs', W', D', P', rfl, pl6, k6, hW', hD', hP'⟩
    have y6 := k6.1
    obtain ⟨gq', lb1, lb2⟩ := sc.good.step false x
    obtain ⟨vq', hcs', hvq'⟩ := pl6.rf
    have oq' := hvq'.one
    simp only [oneCell] at oq'
    have hnb6 := (k6.get (by omega) (fun q => by
      rcases List.mem_append.1 q with r | r
      · have := hW5 _ r; omega
      · have := hD5 _ r; omega)).trans hnb
    have hwb6 := (k6.get (by omega) (fun q => by
      rcases List.mem_append.1 q with r | r
      · exact sc.wW r
      · exact sc.wD r)).trans ((k5.get hws (by simp)).trans hwat)
    have hnb6s := lt_of_get hnb6
    have hwb6s := lt_of_get hwb6
    have hgg6 : hget g6 b' = some (.cells csx es lv an) := (k6.get (by omega) (fun q => by
      rcases List.mem_append.1 q with r | r
      · have := sc.nW _ r; omega
      · have := sc.nD _ r; omega)).trans ((k5.get hgs (by simp)).trans hg)
    rw [hcs']
    simp (disch := first | omega | (simp only [newRow_size, Array.size_setIfInBounds, Array.size_push]; done) | (simp only [newRow_size, Array.size_setIfInBounds, Array.size_push]; omega)) [hnb6, oq', eqT, eqF, neT, neF, ltT, ltF, leT, leF, nltT, nltF, nleT, nleF, nneT, nneF, List.getElem?_cons_zero, List.getElem?_cons_succ, r23_9, hwb6, r23_10, r23_12, hw1]
    rw [← hcs']
    refine ih (120 - (i + 1)) _ _ (by omega) ⟨i + 1, _, _, _, _, _, _, rfl, by omega, ?_, rfl, sc.step gq' k5 pl6 k6 hW' hD' hP' (L := [g.size, g2.size]) ⟨by simp, fun c hc hn => ?_⟩ ?_ ?_⟩
    · push_cast; omega
    · simp only [List.mem_cons, not_or] at hn
      rw [set_other (fun e => hn.2.1 e.symm), set_other (fun e => hn.1 e.symm)]
    · intro c hc
      simp at hc
      rcases hc with rfl | rfl
      · exact .inr ⟨Nat.le_refl _, by omega⟩
      · exact .inl rfl
    · simp [hwb6s]
  · by_cases h1' : i < script.length
    · simp (disch := first | omega | (simp only [newRow_size, Array.size_setIfInBounds, Array.size_push]; done) | (simp only [newRow_size, Array.size_setIfInBounds, Array.size_push]; omega)) [l23_13, r23_7, hl, eqT, eqF, neT, neF, ltT, ltF, leT, leF, nltT, nltF, nleT, nleF, nneT, nneF, List.getElem?_cons_zero, List.getElem?_cons_succ, r23_14]
      refine Ans.next (knownK (F := F) (by omega) g) ?_
      rintro u h2 ⟨rfl, k2⟩
      simp (disch := first | omega | (simp only [newRow_size, Array.size_setIfInBounds, Array.size_push]; done) | (simp only [newRow_size, Array.size_setIfInBounds, Array.size_push]; omega)) []
      subst hQ
      exact Ans.of ⟨rfl, sc.kg.trans k2⟩
    · simp (disch := first | omega | (simp only [newRow_size, Array.size_setIfInBounds, Array.size_push]; done) | (simp only [newRow_size, Array.size_setIfInBounds, Array.size_push]; omega)) [l23_13, r23_7, hl, eqT, eqF, neT, neF, ltT, ltF, leT, leF, nltT, nltF, nleT, nleF, nneT, nneF, List.getElem?_cons_zero, List.getElem?_cons_succ, r23_14]
      refine Ans.next (knownK (F := F) (by omega) g) ?_
      rintro u h2 ⟨rfl, k2⟩
      simp (disch := first | omega | (simp only [newRow_size, Array.size_setIfInBounds, Array.size_push]; done) | (simp only [newRow_size, Array.size_setIfInBounds, Array.size_push]; omega)) []
      subst hQ
      exact Ans.of ⟨rfl, sc.kg.trans k2⟩

theorem f4_spec {F : Nat} (hF : 3003 ≤ F) {h : H} {ok : Nat → Prop} {v : Value} {script : List Stp} (s : SlR ok 6 (StpC ok) h v script) :
    Ans (cf F 4 [v] h) fun u h' => u = .bool true := by
  generalize hQ : (fun (u : Value) (h' : H) => u = Value.bool true) = Q
  obtain ⟨F, rfl⟩ : ∃ G, F = G + 1 := ⟨F - 1, by omega⟩
  rw [cf_step (a := a4) rfl rfl (by simp [a4])]
  simp (disch := first | omega | (simp only [newRow_size, Array.size_setIfInBounds, Array.size_push]; done) | (simp only [newRow_size, Array.size_setIfInBounds, Array.size_push]; omega)) [a4, r4_0, r4_1]
  refine Ans.next (only_spec (F := F) (by omega) 1 1 s) ?_
  rintro u h2 ⟨rfl, k2⟩
  simp (disch := first | omega | (simp only [newRow_size, Array.size_setIfInBounds, Array.size_push]; done) | (simp only [newRow_size, Array.size_setIfInBounds, Array.size_push]; omega)) []
  subst hQ
  exact Ans.of rfl

theorem f6_spec {F : Nat} (hF : 3003 ≤ F) {h : H} {ok : Nat → Prop} {v : Value} {script : List Stp} (s : SlR ok 6 (StpC ok) h v script) :
    Ans (cf F 6 [v] h) fun u h' => u = .bool true := by
  generalize hQ : (fun (u : Value) (h' : H) => u = Value.bool true) = Q
  obtain ⟨F, rfl⟩ : ∃ G, F = G + 1 := ⟨F - 1, by omega⟩
  rw [cf_step (a := a6) rfl rfl (by simp [a6])]
  simp (disch := first | omega | (simp only [newRow_size, Array.size_setIfInBounds, Array.size_push]; done) | (simp only [newRow_size, Array.size_setIfInBounds, Array.size_push]; omega)) [a6, r6_0, r6_1]
  refine Ans.next (only_spec (F := F) (by omega) 3 3 s) ?_
  rintro u h2 ⟨rfl, k2⟩
  simp (disch := first | omega | (simp only [newRow_size, Array.size_setIfInBounds, Array.size_push]; done) | (simp only [newRow_size, Array.size_setIfInBounds, Array.size_push]; omega)) []
  subst hQ
  exact Ans.of rfl

theorem f7_spec {F : Nat} (hF : 3003 ≤ F) {h : H} {ok : Nat → Prop} {v : Value} {script : List Stp} (s : SlR ok 6 (StpC ok) h v script) :
    Ans (cf F 7 [v] h) fun u h' => u = .bool true := by
  generalize hQ : (fun (u : Value) (h' : H) => u = Value.bool true) = Q
  obtain ⟨F, rfl⟩ : ∃ G, F = G + 1 := ⟨F - 1, by omega⟩
  rw [cf_step (a := a7) rfl rfl (by simp [a7])]
  simp (disch := first | omega | (simp only [newRow_size, Array.size_setIfInBounds, Array.size_push]; done) | (simp only [newRow_size, Array.size_setIfInBounds, Array.size_push]; omega)) [a7, r7_0, r7_1]
  refine Ans.next (only_spec (F := F) (by omega) 4 4 s) ?_
  rintro u h2 ⟨rfl, k2⟩
  simp (disch := first | omega | (simp only [newRow_size, Array.size_setIfInBounds, Array.size_push]; done) | (simp only [newRow_size, Array.size_setIfInBounds, Array.size_push]; omega)) []
  subst hQ
  exact Ans.of rfl

theorem f8_spec {F : Nat} (hF : 3003 ≤ F) {h : H} {ok : Nat → Prop} {v : Value} {script : List Stp} (s : SlR ok 6 (StpC ok) h v script) :
    Ans (cf F 8 [v] h) fun u h' => u = .bool true := by
  generalize hQ : (fun (u : Value) (h' : H) => u = Value.bool true) = Q
  obtain ⟨F, rfl⟩ : ∃ G, F = G + 1 := ⟨F - 1, by omega⟩
  rw [cf_step (a := a8) rfl rfl (by simp [a8])]
  simp (disch := first | omega | (simp only [newRow_size, Array.size_setIfInBounds, Array.size_push]; done) | (simp only [newRow_size, Array.size_setIfInBounds, Array.size_push]; omega)) [a8, r8_0, r8_1]
  refine Ans.next (only_spec (F := F) (by omega) 6 6 s) ?_
  rintro u h2 ⟨rfl, k2⟩
  simp (disch := first | omega | (simp only [newRow_size, Array.size_setIfInBounds, Array.size_push]; done) | (simp only [newRow_size, Array.size_setIfInBounds, Array.size_push]; omega)) []
  subst hQ
  exact Ans.of rfl

theorem f9_spec {F : Nat} (hF : 3003 ≤ F) {h : H} {ok : Nat → Prop} {v : Value} {script : List Stp} (s : SlR ok 6 (StpC ok) h v script) :
    Ans (cf F 9 [v] h) fun u h' => u = .bool true := by
  generalize hQ : (fun (u : Value) (h' : H) => u = Value.bool true) = Q
  obtain ⟨F, rfl⟩ : ∃ G, F = G + 1 := ⟨F - 1, by omega⟩
  rw [cf_step (a := a9) rfl rfl (by simp [a9])]
  simp (disch := first | omega | (simp only [newRow_size, Array.size_setIfInBounds, Array.size_push]; done) | (simp only [newRow_size, Array.size_setIfInBounds, Array.size_push]; omega)) [a9, r9_0, r9_1]
  refine Ans.next (only_spec (F := F) (by omega) 1 6 s) ?_
  rintro u h2 ⟨rfl, k2⟩
  simp (disch := first | omega | (simp only [newRow_size, Array.size_setIfInBounds, Array.size_push]; done) | (simp only [newRow_size, Array.size_setIfInBounds, Array.size_push]; omega)) []
  subst hQ
  exact Ans.of rfl

theorem f5_spec {F : Nat} (hF : 3003 ≤ F) {h : H} {ok : Nat → Prop} {v : Value} {script : List Stp} (s : SlR ok 6 (StpC ok) h v script) :
    Ans (cf F 5 [v] h) fun u h' => u = .bool true := by
  generalize hQ : (fun (u : Value) (h' : H) => u = Value.bool true) = Q
  obtain ⟨F, rfl⟩ : ∃ G, F = G + 1 := ⟨F - 1, by omega⟩
  rw [cf_step (a := a5) rfl rfl (by simp [a5])]
  simp (disch := first | omega | (simp only [newRow_size, Array.size_setIfInBounds, Array.size_push]; done) | (simp only [newRow_size, Array.size_setIfInBounds, Array.size_push]; omega)) [a5, r5_0, r5_1]
  refine Ans.next (only_spec (F := F) (by omega) 2 2 s) ?_
  rintro u h2 ⟨rfl, k2⟩
  have s2 := SlR.imp s (ok' := ok) (R' := StpC ok) (h' := h2) (fun _ _ q => q) (fun cs x _ q => StpC.imp q (fun _ _ q => q) (keep_of k2.c (by simp))) (keep_of k2.c (by simp))
  simp (disch := first | omega | (simp only [newRow_size, Array.size_setIfInBounds, Array.size_push]; done) | (simp only [newRow_size, Array.size_setIfInBounds, Array.size_push]; omega)) [eqT, eqF, neT, neF, ltT, ltF, leT, leF, nltT, nltF, nleT, nleF, nneT, nneF, List.getElem?_cons_zero, List.getElem?_cons_succ]
  refine Ans.next (only_spec (F := F) (by omega) 5 5 s2) ?_
  rintro u h3 ⟨rfl, k3⟩
  simp (disch := first | omega | (simp only [newRow_size, Array.size_setIfInBounds, Array.size_push]; done) | (simp only [newRow_size, Array.size_setIfInBounds, Array.size_push]; omega)) [eqT, eqF, neT, neF, ltT, ltF, leT, leF, nltT, nltF, nleT, nleF, nneT, nneF, List.getElem?_cons_zero, List.getElem?_cons_succ]
  subst hQ
  exact Ans.of rfl

end Go.Proofs.Ytmenfnapbggglaa

/- Ev23: what is handed in, cell by cell, with the form's own reach: how long the slices can be. -/
set_option linter.unusedSimpArgs false
set_option linter.unusedVariables false
namespace Go.Ev

mutual
/-- So many bytes: integers are taken as of eight. -/
def Ty.need : Ty → Nat
  | .int _ => 8
  | .bool => 1
  | .str => 16
  | .slice _ => 24
  | .struct fs => Ty.needs fs
def Ty.needs : List Ty → Nat
  | [] => 0
  | f :: fs => f.need + Ty.needs fs
end

mutual
/-- An element of the program's type takes at least so many bytes: for integers eight. -/
def tyB (P : Program) : Ty → TypeId → Bool
  | .int _, _ => true
  | .bool, _ => true
  | .str, _ => true
  | .slice e, t => match P.underlying t with
    | some (.slice el) => decide (e.need ≤ P.bytesOf el) && tyB P e el
    | _ => false
  | .struct fs, t => match P.underlying t with
    | some (.struct fields) => fieldsB P fs fields.toList
    | _ => false
def fieldsB (P : Program) : List Ty → List Field → Bool
  | y :: ys, f :: fs => tyB P y f.type && fieldsB P ys fs
  | _, _ => true
end

theorem weights_mem_all {HT : Type} {P : Program} {t : TypeId} : ∀ {ds : List (DataW HT)} {j : Nat} {d : DataW HT}, ds[j]? = some d → ∀ n ∈ d.weights P t, n ∈ DataW.weightsAll P t ds
  | d0 :: ds, 0, d, hd, n, hn => by
    simp only [List.getElem?_cons_zero, Option.some.injEq] at hd
    subst hd
    simp only [DataW.weightsAll, List.mem_append]
    exact Or.inl hn
  | d0 :: ds, j + 1, d, hd, n, hn => by
    simp only [List.getElem?_cons_succ] at hd
    simp only [DataW.weightsAll, List.mem_append]
    exact Or.inr (weights_mem_all hd n hn)
  | [], _, _, hd, _, _ => by simp at hd

mutual
/-- Cells of such a type, sizes within the reach. -/
def CellsZ (h : H) : Ty → List Value → Prop
  | .int k, cs => ∃ n, cs = [.int k n] ∧ (Lit.int k n).wf = true
  | .bool, cs => ∃ b, cs = [.bool b]
  | .str, cs => ∃ s : ByteArray, cs = [.string s] ∧ s.size ≤ maxLen
  | .slice e, cs => cs = [.slice none 0 0] ∨ cs = [.slice (some ⟨0, 0, some 0⟩) 0 0] ∨
      ∃ b o n c bs, cs = [.slice (some ⟨b, o, none⟩) n c] ∧ n ≤ c ∧ c ≤ maxLen ∧ n * e.need ≤ reachBytes ∧ b < h.size ∧ hget h b = some (.cells bs 0 false []) ∧ ∀ i, i < n → o + i * e.size + e.size ≤ bs.length ∧ CellsZ h e ((bs.drop (o + i * e.size)).take e.size)
  | .struct fs, cs => StructZ h fs cs
def StructZ (h : H) : List Ty → List Value → Prop
  | [], cs => cs = []
  | f :: fs, cs => f.size ≤ cs.length ∧ CellsZ h f (cs.take f.size) ∧ StructZ h fs (cs.drop f.size)
end

section
variable {HT : Type} {enc : TypeId × Value → HT} {P : Program} {W : World} {base : Nat} {held : Bool}

mutual
theorem open_cellsZ : ∀ (y : Ty) (t : TypeId), tyOk P y t = true → tyB P y t = true → ∀ {fuel : Nat} {cs : List Value} {x : DataW HT × List MemPlace}, DataW.trod enc P W base (fun _ => true) held fuel t cs = some x → (∀ n ∈ DataW.weights P t x.1, n ≤ reachBytes) →
    CellsZ (absH W) y (cs.map (absV W.heap.size)) ∧ cs.length = y.size
  | .int k, t, hy, hb, fuel, cs, x, h, hwt => by
    unfold tyOk at hy
    split at hy
    · rename_i k' ht
      have hk : k = k' := by simpa using hy
      subst hk
      obtain ⟨n, rfl, _, hw⟩ := DataW.trod_int ht h
      exact ⟨by simp only [CellsZ]; exact ⟨n, rfl, hw⟩, rfl⟩
    · cases hy
  | .bool, t, hy, hb, fuel, cs, x, h, hwt => by
    unfold tyOk at hy
    split at hy
    · rename_i ht
      obtain ⟨b, rfl, _⟩ := DataW.trod_bool ht h
      exact ⟨by simp only [CellsZ]; exact ⟨b, rfl⟩, rfl⟩
    · cases hy
  | .str, t, hy, hb, fuel, cs, x, h, hwt => by
    unfold tyOk at hy
    split at hy
    · rename_i ht
      obtain ⟨s, rfl, _, hw⟩ := DataW.trod_string ht h
      exact ⟨by simp only [CellsZ]; exact ⟨s, rfl, hw⟩, rfl⟩
    · cases hy
  | .slice e, t, hy, hb, fuel, cs, x, h, hwt => by
    unfold tyOk at hy
    split at hy
    · rename_i el ht
      simp only [Bool.and_eq_true, beq_iff_eq, decide_eq_true_eq] at hy
      obtain ⟨⟨hsz, hpos⟩, hel⟩ := hy
      unfold tyB at hb
      rw [ht] at hb
      simp only [Bool.and_eq_true, decide_eq_true_eq] at hb
      obtain ⟨hbn, hbe⟩ := hb
      rcases DataW.trod_slice ht h with ⟨rfl, _⟩ | ⟨a, len, cap, elems, rest, n, _, rfl, rfl, _, hlc, hcm, hlen, hE, hR, _⟩
      · exact ⟨by simp only [CellsZ]; exact .inl rfl, rfl⟩
      · refine ⟨?_, rfl⟩
        simp only [CellsZ]
        by_cases hc0 : cap = 0
        · subst hc0
          have : len = 0 := by omega
          subst this
          exact .inr (.inl rfl)
        · rw [hsz] at hE hR
          obtain ⟨hrl, hR⟩ := hR rfl
          have hrow : ∀ i, i < cap → ∃ row, W.cells? base (a.add (i * e.size)) e.size = some row := by
            intro i hi
            by_cases hil : i < len
            · have := hE i hil
              obtain ⟨q, hq⟩ : ∃ q, elems[i]? = some q := ⟨_, List.getElem?_eq_getElem (by omega)⟩
              rw [hq] at this
              obtain ⟨row, h1, _⟩ := Option.bind_eq_some_iff.1 this
              exact ⟨row, h1⟩
            · have := hR (i - len) (by omega)
              obtain ⟨q, hq⟩ : ∃ q, rest[i - len]? = some q := ⟨_, List.getElem?_eq_getElem (by omega)⟩
              rw [hq, show len + (i - len) = i by omega] at this
              obtain ⟨row, h1, _⟩ := Option.bind_eq_some_iff.1 this
              exact ⟨row, h1⟩
          obtain ⟨row0, h0⟩ := hrow 0 (by omega)
          rw [Nat.zero_mul, show a.add 0 = a from by simp [Addr.add]] at h0
          obtain ⟨arr, T, fr, hh, hsp, _, _⟩ := cells_row h0 hpos
          obtain ⟨b, o, sp⟩ := a
          simp only at hsp hh
          subst hsp
          have hbl : b < W.heap.size := (Array.getElem?_eq_some_iff.1 hh).1
          have hneed : len * e.need ≤ reachBytes := by
            have h1 := hwt ((elems.length + rest.length) * P.bytesOf el) (by simp [DataW.weights, ht])
            have h2 : len * e.need ≤ (elems.length + rest.length) * P.bytesOf el := Nat.mul_le_mul (by omega) hbn
            omega
          refine .inr (.inr ⟨b, o, len, cap, arr.toList.map (absV W.heap.size), ?_, hlc, hcm, hneed, by rw [absH_size]; exact hbl, ?_, ?_⟩)
          · simp only [List.map_cons, List.map_nil, absV]
            by_cases hl0 : len = 0
            · subst hl0
              cases cap with
              | zero => exact absurd rfl hc0
              | succ cap => simp [absV, hbl]
            · cases len with
              | zero => exact absurd rfl hl0
              | succ len => simp [absV, hbl, hlc]
          · show (W.heap.map (absB W.heap.size))[b]? = _
            rw [Array.getElem?_map, hh]; rfl
          · intro i hi
            obtain ⟨row, hr⟩ := hrow i (by omega)
            obtain ⟨arr', T', fr', hh', _, hsz', hrow'⟩ := cells_row hr hpos
            have hoff : ((⟨b, o, none⟩ : Addr).add (i * e.size)).off = o + i * e.size := by
              by_cases hz : i * e.size = 0
              · simp [Addr.add, hz]
              · simp [Addr.add, hz]
            have hblk : ((⟨b, o, none⟩ : Addr).add (i * e.size)).block = b := by
              by_cases hz : i * e.size = 0
              · simp [Addr.add, hz]
              · simp [Addr.add, hz]
            rw [hblk, hh] at hh'
            simp only [Option.some.injEq, Obj.cells.injEq] at hh'
            obtain ⟨rfl, _, _⟩ := hh'
            rw [hoff] at hsz' hrow'
            have hEi := hE i hi
            obtain ⟨q, hq⟩ : ∃ q, elems[i]? = some q := ⟨_, List.getElem?_eq_getElem (by omega)⟩
            rw [hq, hr] at hEi
            simp only [Option.bind_some] at hEi
            have hrec := (open_cellsZ e el hel hbe hEi (fun m hm => hwt m (by
              simp only [DataW.weights, ht, List.mem_cons, List.mem_append]
              refine .inr (.inl (weights_mem_all (j := i) (d := q.1) (by rw [List.getElem?_map, hq]; rfl) m hm))))).1
            refine ⟨by simpa using hsz', ?_⟩
            rw [hrow'] at hrec
            simpa [List.map_take, List.map_drop] using hrec
    · cases hy
  | .struct fs, t, hy, hb, fuel, cs, x, h, hwt => by
    unfold tyOk at hy
    split at hy
    · rename_i fields ht
      simp only [Bool.and_eq_true, beq_iff_eq] at hy
      obtain ⟨hsz, hf⟩ := hy
      unfold tyB at hb
      rw [ht] at hb
      simp only at hb
      obtain ⟨xs, n, _, rfl, hl, hlen, hi⟩ := DataW.trod_struct ht h
      rw [hsz] at hl
      refine ⟨?_, by simpa [Ty.size] using hl⟩
      simp only [CellsZ]
      have := open_fieldsZ fs fields.toList 0 hf hb (fuel := n) (cs := cs) (by omega) (fun i f hif => by
        have hif' : fields[i]? = some f := by simpa using hif
        have := hi i f hif'
        obtain ⟨q, hq⟩ : ∃ q, xs[i]? = some q := ⟨_, List.getElem?_eq_getElem (by
          have := (Array.getElem?_eq_some_iff.1 hif').1
          omega)⟩
        rw [hq] at this
        refine ⟨q, this, fun m hm => hwt m ?_⟩
        simp only [DataW.weights, ht]
        exact DataW.weights_mem_each (j := i) (t := f.type) (d := q.1) (by rw [List.getElem?_map, hif]; rfl) (by rw [List.getElem?_map, hq]; rfl) m hm)
      simpa using this
    · cases hy
theorem open_fieldsZ : ∀ (ys : List Ty) (fs : List Field) (o : Nat), fieldsOk P ys fs o = true → fieldsB P ys fs = true → ∀ {fuel : Nat} {cs : List Value}, cs.length = o + Ty.sizes ys →
    (∀ (i : Nat) (f : Field), fs[i]? = some f → ∃ x, DataW.trod enc P W base (fun _ => true) held fuel f.type ((cs.drop f.offset).take (P.cellsOf f.type)) = some x ∧ ∀ n ∈ DataW.weights P f.type x.1, n ≤ reachBytes) →
    StructZ (absH W) ys ((cs.drop o).map (absV W.heap.size))
  | [], [], o, _, _, fuel, cs, hl, _ => by
    simp only [StructZ, Ty.sizes] at hl ⊢
    simp; omega
  | [], _ :: _, _, h, _, _, _, _, _ => by simp [fieldsOk] at h
  | _ :: _, [], _, h, _, _, _, _, _ => by simp [fieldsOk] at h
  | y :: ys, f :: fs, o, h, hb, fuel, cs, hl, hx => by
    simp only [fieldsB, Bool.and_eq_true] at hb
    simp only [fieldsOk, Bool.and_eq_true, beq_iff_eq] at h
    obtain ⟨⟨⟨h1, h2⟩, h3⟩, h4⟩ := h
    simp only [Ty.sizes] at hl
    obtain ⟨x, hx0, hwx⟩ := hx 0 f rfl
    rw [h1, h2] at hx0
    have g1 := (open_cellsZ y f.type h3 hb.1 hx0 hwx).1
    have g2 := open_fieldsZ ys fs (o + y.size) h4 hb.2 (fuel := fuel) (cs := cs) (by omega) (fun i g hg => hx (i + 1) g (by simpa using hg))
    simp only [StructZ]
    refine ⟨by simp; omega, ?_, ?_⟩
    · simpa [List.map_take, List.map_drop] using g1
    · simpa [List.map_drop, List.drop_drop, Nat.add_comm] using g2
end

mutual
theorem cellsZ_plain {h : H} : ∀ (y : Ty) {cs : List Value}, CellsZ h y cs → cs.length = y.size ∧ ∀ x ∈ cs, oneCell x = true ∧ sameCell x x = true
  | .int k, cs, hc => by
    simp only [CellsZ] at hc
    obtain ⟨n, rfl, _⟩ := hc
    simp [Ty.size, oneCell, sameCell]
  | .bool, cs, hc => by
    simp only [CellsZ] at hc
    obtain ⟨n, rfl⟩ := hc
    simp [Ty.size, oneCell, sameCell]
  | .str, cs, hc => by
    simp only [CellsZ] at hc
    obtain ⟨n, rfl, _⟩ := hc
    refine ⟨rfl, fun x hx => ?_⟩
    rw [List.mem_singleton] at hx
    subst hx
    exact ⟨rfl, (MapKept.bytes_beq n n).2 rfl⟩
  | .slice e, cs, hc => by
    simp only [CellsZ] at hc
    rcases hc with rfl | rfl | ⟨b, o, n, c, bs, rfl, _⟩ <;> simp [Ty.size, oneCell, sameCell]
  | .struct fs, cs, hc => by
    simp only [CellsZ] at hc
    have := structZ_plain fs hc
    simpa [Ty.size] using this
theorem structZ_plain {h : H} : ∀ (ys : List Ty) {cs : List Value}, StructZ h ys cs → cs.length = Ty.sizes ys ∧ ∀ x ∈ cs, oneCell x = true ∧ sameCell x x = true
  | [], cs, hc => by
    simp only [StructZ] at hc
    subst hc
    simp [Ty.sizes]
  | y :: ys, cs, hc => by
    simp only [StructZ] at hc
    obtain ⟨h1, h2, h3⟩ := hc
    obtain ⟨a1, a2⟩ := cellsZ_plain y h2
    obtain ⟨b1, b2⟩ := structZ_plain ys h3
    refine ⟨by simp [Ty.sizes] at b1 ⊢; omega, fun x hx => ?_⟩
    rw [← List.take_append_drop y.size cs] at hx
    rcases List.mem_append.1 hx with hx | hx
    · exact a2 x hx
    · exact b2 x hx
end

/-- An argument. -/
theorem open_argZ {y : Ty} {t : TypeId} (hy : tyOk P y t = true) (hb : tyB P y t = true) {v : Value} {d : DataW HT} {p : List MemPlace} (h : DataW.Trod enc P W base (fun _ => true) held t v d p) (hw : ∀ n ∈ DataW.weights P t d, n ≤ reachBytes) : CellsZ (absH W) y (v.cells.toList.map (absV W.heap.size)) := by
  obtain ⟨fuel, h⟩ := h
  exact (open_cellsZ y t hy hb h hw).1

end

end Go.Ev

/- What is handed in: scripts of steps. -/
set_option linter.unusedVariables false
set_option linter.unusedSimpArgs false
namespace Go.Proofs.Ytmenfnapbggglaa
open Go.Ev Go.ChangeShapes Go.WideShapes Go.RowKit

theorem Try.own : ownKnob Try.prog.godebug = none := by kernel_rfl
theorem Try.laidOut : laidOutB Try.prog = true := by kernel_rfl

abbrev tI : Ty := .int .i64
def msgT : Ty := .struct [tI, tI, .str]
def stepT : Ty := .struct [tI, tI, .slice msgT, tI, tI, tI]
theorem step_ty : tyOk Try.prog (.slice stepT) 40 = true := by kernel_rfl
theorem step_tb : tyB Try.prog (.slice stepT) 40 = true := by kernel_rfl

theorem slR_of {e : Ty} {α : Type} {R : H → List Value → α → Prop} {h : H} (hex : ∀ cs, CellsZ h e cs → ∃ x, R h cs x) {v : Value} (hc : CellsZ h (.slice e) [v]) :
    ∃ xs : List α, SlR (fun b => b < h.size) e.size R h v xs := by
  simp only [CellsZ] at hc
  rcases hc with e | e | ⟨b, o, n, c, bs, e, hnc, _, hz, hbs, hg, hi⟩
  · simp at e; subst e
    exact ⟨[], .inl ⟨.inl rfl, rfl⟩⟩
  · simp at e; subst e
    exact ⟨[], .inl ⟨.inr rfl, rfl⟩⟩
  · simp at e; subst e
    have hx : ∀ i, i < n → ∃ x, R h ((bs.drop (o + i * e.size)).take e.size) x := fun i hi' => hex _ (hi i hi').2
    refine ⟨(List.range n).attach.map fun i => Classical.choose (hx i.1 (List.mem_range.1 i.2)), .inr ⟨b, o, c, bs, by simp, by simpa using hnc, hbs, cel_of hg, ?_⟩⟩
    intro i a ha
    simp only [List.getElem?_map, Option.map_eq_some_iff] at ha
    obtain ⟨⟨j, hj⟩, hj', rfl⟩ := ha
    have hij : i = j := by
      have := congrArg (Option.map Subtype.val) hj'
      rw [← List.getElem?_map, List.attach_map_subtype_val] at this
      have hlt := List.mem_range.1 hj
      obtain ⟨h1, h2⟩ := List.getElem?_eq_some_iff.1 (show (List.range n)[i]? = some j from this)
      simpa using h2
    subst hij
    have hlt := List.mem_range.1 hj
    exact ⟨(hi i hlt).1, Classical.choose_spec (hx i hlt)⟩

abbrev below (h : H) : Nat → Prop := fun b => b < h.size

theorem open_msgs {h : H} {v : Value} (hc : CellsZ h (.slice msgT) [v]) : ∃ xs, SlR (below h) 3 MsgC h v xs :=
  slR_of (R := MsgC) (fun cs hc => by
    have hl := (cellsZ_plain _ hc).1
    have hl : cs.length = 3 := hl
    simp only [msgT, CellsZ, StructZ, Ty.size] at hc
    obtain ⟨_, ⟨a, e1, _⟩, _, ⟨b, e2, _⟩, _, ⟨n, e3, _⟩, _⟩ := hc
    match cs, hl with
    | [c0, c1, c2], _ =>
      simp at e1 e2 e3
      subst e1 e2 e3
      exact ⟨⟨a, b, n⟩, rfl⟩) hc

theorem open_steps {h : H} {v : Value} (hc : CellsZ h (.slice stepT) [v]) : ∃ xs, SlR (below h) 6 (StpC (below h)) h v xs :=
  slR_of (R := StpC (below h)) (fun cs hc => by
    have hl := (cellsZ_plain _ hc).1
    have hl : cs.length = 6 := hl
    simp only [stepT, CellsZ, StructZ, Ty.size, Ty.sizes] at hc
    match cs, hl with
    | [c0, c1, c2, c3, c4, c5], _ =>
      simp at hc
      obtain ⟨⟨k, e1, _⟩, ⟨n, e2, _⟩, hv, ⟨a, e3, _⟩, ⟨b, e4, _⟩, ⟨c, e5, _⟩⟩ := hc
      subst e1 e2 e3 e4 e5
      obtain ⟨ms, st⟩ := open_msgs (h := h) (v := c2) (by simp only [CellsZ]; simpa using hv)
      exact ⟨⟨k, n, ms, a, b, c⟩, ⟨c2, rfl, st⟩⟩) hc

section
variable {HT : Type} {enc : TypeId × Value → HT} {W : World} {base : Nat} {held : Bool}

set_option maxRecDepth 100000 in
theorem open_script {base' : Nat} {v : Value} {d : DataW HT} {p : List MemPlace} (hv : Value.okWide Try.prog W .any base' 40 v) (h : DataW.Trod enc Try.prog W base (fun _ => true) held 40 v d p) (hw : ∀ n ∈ DataW.weights Try.prog 40 d, n ≤ reachBytes) :
    ∃ script, SlR (below (absH W)) 6 (StpC (below (absH W))) (absH W) (absA W.heap.size v) script := by
  have hc := open_argZ step_ty step_tb h hw
  have hna : ∀ cs, v ≠ .agg cs := by
    intro cs e
    subst e
    unfold Value.okWide at hv
    rw [Try.underlying40] at hv
    simp [Cell.okWide, Cell.ok, Try.underlying40] at hv
  have hcs : v.cells.toList = [v] := by
    cases v <;> first | rfl | exact absurd rfl (hna _)
  have habs : absA W.heap.size v = absV W.heap.size v := by
    cases v <;> first | rfl | exact absurd rfl (hna _)
  rw [hcs] at hc
  rw [habs]
  exact open_steps hc

end

theorem weights_at {HT : Type} {P : Program} {ts : List TypeId} {ds : List (DataW HT)} (h : (DataW.weightsEach P ts ds).all (· ≤ reachBytes) = true) (j : Nat) {t : TypeId} {d : DataW HT} (ht : ts[j]? = some t) (hd : ds[j]? = some d) : ∀ n ∈ DataW.weights P t d, n ≤ reachBytes := fun n hn => by
  simpa using List.all_eq_true.1 h n (DataW.weights_mem_each ht hd n hn)

end Go.Proofs.Ytmenfnapbggglaa
