/- Several texts in one: Ld12, Ld13. -/
import Derived.Test.YtmenfnapbggglaaM19

/- LineNothing: a nil line. -/
set_option linter.unusedSimpArgs false
set_option linter.unusedVariables false
namespace Go.Proofs.Ytmenfnapbggglaa
open Go.Ev

def wcs : List Value := [.slice none 0 0, .int .i64 0, .bool true]
def noP : Nat → Prop := fun _ => False
theorem nil_ref (g : H) : RefL noP g wcs [] 0 true := ⟨_, rfl, .inl ⟨.inl rfl, rfl⟩⟩

structure NoS (h g : H) (wb d : Nat) (D : List Nat) : Prop where
  wc : hget g wb = some (.cells wcs 0 true [])
  dk : DeskS g d D
  wD : wb ∉ D
  kg : Kept h g []
  nD : ∀ c ∈ D, h.size ≤ c
  nw : h.size ≤ wb

theorem NoS.nil {h g : H} {wb d : Nat} {D : List Nat} (s : NoS h g wb d D) : PlS noP g (.pointer none) [] 0 true [] wcs d D := ⟨.inl ⟨rfl, rfl, rfl, rfl⟩, nil_ref g, s.dk, fun _ _ q => q, by simp, by simp, fun _ q => q.elim⟩

theorem NoS.frame {h g g1 : H} {wb d : Nat} {D : List Nat} (s : NoS h g wb d D) (k : Kept g g1 []) : NoS h g1 wb d D :=
  ⟨(k.get (lt_of_get s.wc) (by simp)).trans s.wc, s.dk.kept k (by simp), s.wD, s.kg.trans k, s.nD, s.nw⟩

/-- Behind a step, and what was answered written into a new block nb. -/
theorem NoS.step {h g g2 g3 : H} {wb d nb : Nat} {D D' : List Nat} (s : NoS h g wb d D) (dk : DeskS g2 d D') (k2 : Kept g g2 D) (hD' : ∀ c ∈ D', c ∈ D ∨ g.size ≤ c)
    (k3 : Kept g2 g3 [nb]) (nbw : nb ≠ wb) (nbD : nb ∉ D) (nbs : nb < g.size) (nbh : h.size ≤ nb) : NoS h g3 wb d D' := by
  have hwl := lt_of_get s.wc
  have y2 := k2.1
  refine ⟨(k3.get (by omega) (by simpa using fun e => nbw e.symm)).trans ((k2.get hwl s.wD).trans s.wc), dk.kept k3 ?_, ?_, ⟨by have := s.kg.1; have := k3.1; omega, fun c hc _ => ?_⟩, ?_, s.nw⟩
  · intro c hc q
    simp at q
    subst q
    rcases hD' _ hc with r | r
    · exact nbD r
    · omega
  · intro q
    rcases hD' _ q with r | r
    · exact s.wD r
    · omega
  · have := s.kg.1
    refine (k3.get (by omega) (by simp; omega)).trans ((k2.get (by omega) (fun q => ?_)).trans (s.kg.get hc (by simp)))
    have := s.nD _ q; omega
  · intro c hc
    have := s.kg.1
    rcases hD' _ hc with r | r
    · exact s.nD c r
    · omega

set_option maxHeartbeats 1000000 in
theorem f11_spec {F : Nat} (hF : 3003 ≤ F) {h : H} {ok : Nat → Prop} {v : Value} {script : List Stp} (s : SlR ok 6 (StpC ok) h v script) :
    Ans (cf F 11 [v] h) fun u h' => u = .bool true := by
  generalize hQ : (fun (u : Value) (h' : H) => u = Value.bool true) = Q
  obtain ⟨F, rfl⟩ : ∃ G, F = G + 1 := ⟨F - 1, by omega⟩
  rw [cf_step (a := a11) rfl rfl (by simp [a11])]
  have hl := s.len
  simp (disch := first | omega | (simp only [newRow_size, Array.size_setIfInBounds, Array.size_push]; done) | (simp only [newRow_size, Array.size_setIfInBounds, Array.size_push]; omega)) [a11, r11_0, r11_1, r11_2, r11_3]
  have ew : [Value.slice none 0 0, .int .i64 0, .bool true] = wcs := rfl
  rw [ew]
  generalize hdd : [Value.slice none 0 0] = dcs
  have hw4 : hget (Ev.newRow (Ev.newRow h wcs 0 []) dcs 0 []) h.size = some (.cells wcs 0 true []) := by simp (disch := first | omega | (simp only [newRow_size, Array.size_setIfInBounds, Array.size_push]; done) | (simp only [newRow_size, Array.size_setIfInBounds, Array.size_push]; omega)) []
  have hd4 : hget (Ev.newRow (Ev.newRow h wcs 0 []) dcs 0 []) (h.size + 1) = some (.cells dcs 0 true []) := by simp (disch := first | omega | (simp only [newRow_size, Array.size_setIfInBounds, Array.size_push]; done) | (simp only [newRow_size, Array.size_setIfInBounds, Array.size_push]; omega)) []
  have k0 : Kept h (Ev.newRow (Ev.newRow h wcs 0 []) dcs 0 []) [] := (rowKept _ _ _ _).trans (rowKept _ _ _ _)
  generalize Ev.newRow (Ev.newRow h wcs 0 []) dcs 0 [] = g4 at hw4 hd4 k0 ⊢
  subst hdd
  have n0 : NoS h g4 h.size (h.size + 1) [h.size + 1] := ⟨hw4, desk_new hd4, by simp, k0, by simp, by omega⟩
  refine loop_rule (fun m e g => ∃ (i : Nat) (D : List Nat), m = 120 - i ∧ i ≤ 120 ∧ e = [(0, v), (3, .pointer none), (4, .pointer (some ⟨h.size, 0, none⟩)), (5, .pointer (some ⟨h.size + 1, 0, none⟩)), (6, .int .i64 i)] ∧ NoS h g h.size (h.size + 1) D) ?_ _ 120 _ _ (by omega) ⟨0, _, by omega, by omega, rfl, n0⟩
  clear n0
  rintro m e g again ⟨i, D, rfl, hi120, rfl, sc⟩ ih
  have hw1 : IntKind.i64.wrap ((i : Int) + 1) = ((i + 1 : Nat) : Int) := by rw [wrap_id (by omega) (by omega)]; rfl
  by_cases hlt : i < script.length ∧ i < 120
  · obtain ⟨x, hx⟩ : ∃ x, script[i]? = some x := ⟨_, List.getElem?_eq_getElem hlt.1⟩
    have sg := SlR.imp s (ok' := fun c => ok c ∧ c < h.size) (R' := StpC (fun c => ok c ∧ c < h.size)) (h' := g) (fun c hc q => ⟨q, hc⟩) (fun cs x _ q => StpC.imp q (fun c hc q => ⟨q, hc⟩) (keep_of sc.kg.c (by simp))) (keep_of sc.kg.c (by simp))
    obtain ⟨b', o, c, csx, es, lv, an, rfl, hk, hg, hle, hx5⟩ := sg.at' hx
    have hcl : ((csx.drop (o + i * 6)).take 6).length = 6 := by simp; omega
    have hwat := sc.wc
    simp only [wcs] at hwat
    have hgs := lt_of_get hg
    have hws := lt_of_get hwat
    simp (disch := first | omega | (simp only [newRow_size, Array.size_setIfInBounds, Array.size_push]; done) | (simp only [newRow_size, Array.size_setIfInBounds, Array.size_push]; omega)) [l11_10, r11_5, hg, hl, eqT, eqF, neT, neF, ltT, ltF, leT, leF, nltT, nltF, nleT, nleF, nneT, nneF, List.getElem?_cons_zero, List.getElem?_cons_succ, d11_6, hwat]
    rw [ew]
    have k5 := rowKept g [.slice none 0 0, .int .i64 0, .bool false] 0 []
    have hnb : hget (Ev.newRow g [.slice none 0 0, .int .i64 0, .bool false] 0 []) g.size = some (.cells [.slice none 0 0, .int .i64 0, .bool false] 0 true []) := by simp
    have z5 : (Ev.newRow g [.slice none 0 0, .int .i64 0, .bool false] 0 []).size = g.size + 1 := by simp
    generalize Ev.newRow g [.slice none 0 0, .int .i64 0, .bool false] 0 [] = g5 at k5 hnb z5 ⊢
    have hx6 := StpC.imp hx5 (OL' := fun c => ok c ∧ c < h.size) (fun _ _ q => q) (keep_of k5.c (by simp))
    have s5 := sc.frame k5
    have hD5 := sc.dk.lt
    have nw := s5.nw
    refine Ans.nextE (plays_spec (F := F) (by omega) s5.nil Gd.nil (by omega) hx6) ?_
    rintro u g6 ⟨cs', W', D', P', rfl, pl6, k6, hW', hD', hP'⟩
    rw [List.nil_append] at k6
    have y6 := k6.1
    obtain ⟨vq', hcs', hvq'⟩ := pl6.rf
    have oq' := hvq'.one
    simp only [oneCell] at oq'
    have nbD : g.size ∉ D := fun q => by have := hD5 _ q; omega
    have hnb6 := (k6.get (by omega) nbD).trans hnb
    have hnb6s := lt_of_get hnb6
    rw [hcs']
    simp (disch := first | omega | (simp only [newRow_size, Array.size_setIfInBounds, Array.size_push]; done) | (simp only [newRow_size, Array.size_setIfInBounds, Array.size_push]; omega)) [hnb6, oq', eqT, eqF, neT, neF, ltT, ltF, leT, leF, nltT, nltF, nleT, nleF, nneT, nneF, List.getElem?_cons_zero, List.getElem?_cons_succ, r11_7, r11_9, hw1]
    rw [← hcs']
    have k7 : Kept g6 (g6.setIfInBounds g.size (.cells cs' 0 true [])) [g.size] := ⟨by simp, fun c hc hn => set_other (fun e => hn (by simp [e]))⟩
    have n7 := s5.step pl6.dk k6 hD' k7 (by omega) nbD (by omega) (by have := sc.kg.1; omega)
    exact ih (120 - (i + 1)) _ _ (by omega) ⟨i + 1, _, rfl, by omega, rfl, n7⟩
  · by_cases h1' : i < script.length
    · simp (disch := first | omega | (simp only [newRow_size, Array.size_setIfInBounds, Array.size_push]; done) | (simp only [newRow_size, Array.size_setIfInBounds, Array.size_push]; omega)) [l11_10, r11_5, hl, eqT, eqF, neT, neF, ltT, ltF, leT, leF, nltT, nltF, nleT, nleF, nneT, nneF, List.getElem?_cons_zero, List.getElem?_cons_succ, r11_11]
      refine Ans.next (knownK (F := F) (by omega) g) ?_
      rintro u h2 ⟨rfl, k2⟩
      simp (disch := first | omega | (simp only [newRow_size, Array.size_setIfInBounds, Array.size_push]; done) | (simp only [newRow_size, Array.size_setIfInBounds, Array.size_push]; omega)) []
      subst hQ
      exact Ans.of rfl
    · simp (disch := first | omega | (simp only [newRow_size, Array.size_setIfInBounds, Array.size_push]; done) | (simp only [newRow_size, Array.size_setIfInBounds, Array.size_push]; omega)) [l11_10, r11_5, hl, eqT, eqF, neT, neF, ltT, ltF, leT, leF, nltT, nltF, nleT, nleF, nneT, nneF, List.getElem?_cons_zero, List.getElem?_cons_succ, r11_11]
      refine Ans.next (knownK (F := F) (by omega) g) ?_
      rintro u h2 ⟨rfl, k2⟩
      simp (disch := first | omega | (simp only [newRow_size, Array.size_setIfInBounds, Array.size_push]; done) | (simp only [newRow_size, Array.size_setIfInBounds, Array.size_push]; omega)) []
      subst hQ
      exact Ans.of rfl

end Go.Proofs.Ytmenfnapbggglaa

/- LineTwo: two lines in turns, one desk. -/
set_option linter.unusedSimpArgs false
set_option linter.unusedVariables false
namespace Go.Proofs.Ytmenfnapbggglaa
open Go.Ev

/-- Two lines in a script. -/
structure Pair (h : H) (g : H) (d : Nat) (D : List Nat) (P1 : Nat → Prop) (v1 : Value) (f1 : Flight) (l1 : Int) (W1 : List Nat) (cs1 : List Value) (wb1 : Nat) (P2 : Nat → Prop) (v2 : Value) (f2 : Flight) (l2 : Int) (W2 : List Nat) (cs2 : List Value) (wb2 : Nat) : Prop where
  a : Sc h P1 g v1 f1 l1 false W1 cs1 d D wb1
  b : Sc h P2 g v2 f2 l2 false W2 cs2 d D wb2
  ww : ∀ c ∈ W1, c ∉ W2
  wp1 : ∀ c ∈ W1, ¬ P2 c
  wp2 : ∀ c ∈ W2, ¬ P1 c
  x1 : wb1 ∉ W2
  x2 : wb2 ∉ W1
  y1 : ¬ P2 wb1
  y2 : ¬ P1 wb2
  ne : wb1 ≠ wb2

section
variable {h g : H} {d : Nat} {D : List Nat} {P1 : Nat → Prop} {v1 : Value} {f1 : Flight} {l1 : Int} {W1 : List Nat} {cs1 : List Value} {wb1 : Nat} {P2 : Nat → Prop} {v2 : Value} {f2 : Flight} {l2 : Int} {W2 : List Nat} {cs2 : List Value} {wb2 : Nat}

theorem Pair.swap (s : Pair h g d D P1 v1 f1 l1 W1 cs1 wb1 P2 v2 f2 l2 W2 cs2 wb2) : Pair h g d D P2 v2 f2 l2 W2 cs2 wb2 P1 v1 f1 l1 W1 cs1 wb1 :=
  ⟨s.b, s.a, fun c h1 h2 => s.ww c h2 h1, s.wp2, s.wp1, s.x2, s.x1, s.y2, s.y1, s.ne.symm⟩

/-- A step on the first one. -/
theorem Pair.play (s : Pair h g d D P1 v1 f1 l1 W1 cs1 wb1 P2 v2 f2 l2 W2 cs2 wb2) {f' : Flight} {l' : Int} (hq : Gd f' l') {g2 : H} {cs' : List Value} {W' D' : List Nat} {P' : Nat → Prop} (pl : PlS P' g2 v1 f' l' false W' cs' d D') (k2 : Kept g g2 (W1 ++ D)) (hW' : ∀ c ∈ W', c ∈ W1 ∨ g.size ≤ c) (hD' : ∀ c ∈ D', c ∈ D ∨ g.size ≤ c) (hP' : ∀ c, P' c → P1 c ∨ g.size ≤ c) :
    Pair h (g2.setIfInBounds wb1 (.cells cs' 0 true [])) d D' P' v1 f' l' W' cs' wb1 P2 v2 f2 l2 W2 cs2 wb2 := by
  have y2 := k2.1
  have hw1 := lt_of_get s.a.wat
  have hw2 := lt_of_get s.b.wat
  have k4 : Kept g2 (g2.setIfInBounds wb1 (.cells cs' 0 true [])) [wb1] := ⟨by simp, fun c hc hn => set_other (fun e => hn (by simp [e]))⟩
  have hw1' : wb1 < g2.size := by omega
  have hat : hget (g2.setIfInBounds wb1 (.cells cs' 0 true [])) wb1 = some (.cells cs' 0 true []) := by simp [hw1']
  have sa := s.a.step hq (Kept.refl g []) pl k2 hW' hD' hP' k4 (by simp) hat
  generalize g2.setIfInBounds wb1 (.cells cs' 0 true []) = g4 at k4 sa ⊢
  have k : Kept g g4 (wb1 :: (W1 ++ D)) := (k2.weak (fun c q => List.mem_cons_of_mem _ q)).trans (k4.weak (by simp))
  have hL : ∀ c ∈ wb1 :: (W1 ++ D), c ∉ W2 ∧ ¬ P2 c := by
    intro c hc
    rw [List.mem_cons, List.mem_append] at hc
    rcases hc with rfl | hc | hc
    · exact ⟨s.x1, s.y1⟩
    · exact ⟨s.ww c hc, s.wp1 c hc⟩
    · exact ⟨s.b.pl.wd c hc, s.b.pl.pd c hc⟩
  have hW2 := s.b.pl.ls.lt
  have nd : ∀ c, c < g.size → c ∉ D → c ∉ D' := by
    intro c hc hn q
    rcases hD' c q with r | r
    · exact hn r
    · omega
  have sb : Sc h P2 g4 v2 f2 l2 false W2 cs2 d D' wb2 := by
    refine ⟨⟨s.b.pl.ls.kept k (fun c hc q => (hL c q).1 hc), s.b.pl.rf.imp (fun _ _ q => q) (keep_of k.c (fun c hc => (hL c hc).2)), sa.pl.dk, ?_, ?_, s.b.pl.pw, ?_⟩, s.b.good, ?_, s.b.wP, s.b.wW, nd _ hw2 s.b.wD, sa.kg, s.b.nW, sa.nD, s.b.nw⟩
    · intro c hc q
      rcases hD' c hc with r | r
      · exact s.b.pl.pd c r q
      · have := s.b.pl.plt c q; omega
    · intro c hc q
      rcases hD' c hc with r | r
      · exact s.b.pl.wd c r q
      · have := hW2 c q; omega
    · intro c q
      have := s.b.pl.plt c q
      have := k.1
      omega
    · refine (k.get hw2 ?_).trans s.b.wat
      rw [List.mem_cons, List.mem_append]
      rintro (e | e | e)
      · exact s.ne e.symm
      · exact s.x2 e
      · exact s.b.wD e
  refine ⟨sa, sb, ?_, ?_, ?_, s.x1, ?_, s.y1, ?_, s.ne⟩
  · intro c hc q
    rcases hW' c hc with r | r
    · exact s.ww c r q
    · have := hW2 c q; omega
  · intro c hc q
    rcases hW' c hc with r | r
    · exact s.wp1 c r q
    · have := s.b.pl.plt c q; omega
  · intro c hc q
    rcases hP' c q with r | r
    · exact s.wp2 c hc r
    · have := hW2 c hc; omega
  · intro q
    rcases hW' _ q with r | r
    · exact s.x2 r
    · omega
  · intro q
    rcases hP' _ q with r | r
    · exact s.y2 r
    · omega
end

set_option maxHeartbeats 2000000 in
theorem f10_spec {F : Nat} (hF : 3003 ≤ F) {h : H} {ok : Nat → Prop} {v : Value} {script : List Stp} (s : SlR ok 6 (StpC ok) h v script) :
    Ans (cf F 10 [v] h) fun u h' => u = .bool true := by
  generalize hQ : (fun (u : Value) (h' : H) => u = Value.bool true) = Q
  obtain ⟨F, rfl⟩ : ∃ G, F = G + 1 := ⟨F - 1, by omega⟩
  rw [cf_step (a := a10) rfl rfl (by simp [a10])]
  have hl := s.len
  have hnew : ∀ h, cf F 15 [] h = some (.pointer (some ⟨h.size, 0, none⟩), Ev.newRow h [.map none, .int .i64 0] 0 []) := by
    obtain ⟨F, rfl⟩ : ∃ G, F = G + 1 := ⟨F - 1, by omega⟩
    exact fun h => new_eq F h
  simp (disch := first | omega | (simp only [newRow_size, Array.size_setIfInBounds, Array.size_push]; done) | (simp only [newRow_size, Array.size_setIfInBounds, Array.size_push]; omega)) [a10, r10_0, r10_1, hnew, r10_2, r10_3, nilEq, eqT, eqF, neT, neF, ltT, ltF, leT, leF, nltT, nltF, nleT, nleF, nneT, nneF, List.getElem?_cons_zero, List.getElem?_cons_succ]
  generalize hzz : [Value.map none, .int .i64 0] = zz
  have hl1 : hget (Ev.newRow (Ev.newRow h zz 0 []) zz 0 []) h.size = some (.cells zz 0 true []) := by simp (disch := first | omega | (simp only [newRow_size, Array.size_setIfInBounds, Array.size_push]; done) | (simp only [newRow_size, Array.size_setIfInBounds, Array.size_push]; omega)) []
  have hl2 : hget (Ev.newRow (Ev.newRow h zz 0 []) zz 0 []) (h.size + 1) = some (.cells zz 0 true []) := by simp (disch := first | omega | (simp only [newRow_size, Array.size_setIfInBounds, Array.size_push]; done) | (simp only [newRow_size, Array.size_setIfInBounds, Array.size_push]; omega)) []
  have k1 : Kept h (Ev.newRow (Ev.newRow h zz 0 []) zz 0 []) [] := kept_row (rowKept _ _ _ _) _ _ _
  have z1 : (Ev.newRow (Ev.newRow h zz 0 []) zz 0 []).size = h.size + 2 := by simp
  generalize Ev.newRow (Ev.newRow h zz 0 []) zz 0 [] = g1 at hl1 hl2 k1 z1 ⊢
  subst hzz
  simp (disch := first | omega | (simp only [newRow_size, Array.size_setIfInBounds, Array.size_push]; done) | (simp only [newRow_size, Array.size_setIfInBounds, Array.size_push]; omega)) [r10_5]
  refine Ans.next (refNew_spec (F := F) (by omega) g1) ?_
  rintro u g2 ⟨rfl, k2⟩
  have y2 := k2.1
  simp (disch := first | omega | (simp only [newRow_size, Array.size_setIfInBounds, Array.size_push]; done) | (simp only [newRow_size, Array.size_setIfInBounds, Array.size_push]; omega)) [eqT, eqF, neT, neF, ltT, ltF, leT, leF, nltT, nltF, nleT, nleF, nneT, nneF, List.getElem?_cons_zero, List.getElem?_cons_succ, r10_6]
  generalize hyy : [Value.slice none 0 0, .int .i64 0, .bool false] = yy
  have hw3 : hget (Ev.newRow g2 yy 0 []) g2.size = some (.cells yy 0 true []) := by simp (disch := first | omega | (simp only [newRow_size, Array.size_setIfInBounds, Array.size_push]; done) | (simp only [newRow_size, Array.size_setIfInBounds, Array.size_push]; omega)) []
  have k3 := rowKept g2 yy 0 []
  have z3 : (Ev.newRow g2 yy 0 []).size = g2.size + 1 := by simp
  generalize Ev.newRow g2 yy 0 [] = g3 at hw3 k3 z3 ⊢
  refine Ans.next (refNew_spec (F := F) (by omega) g3) ?_
  rintro u g4 ⟨rfl, k4⟩
  have y4 := k4.1
  rw [hyy]
  subst hyy
  simp (disch := first | omega | (simp only [newRow_size, Array.size_setIfInBounds, Array.size_push]; done) | (simp only [newRow_size, Array.size_setIfInBounds, Array.size_push]; omega)) [eqT, eqF, neT, neF, ltT, ltF, leT, leF, nltT, nltF, nleT, nleF, nneT, nneF, List.getElem?_cons_zero, List.getElem?_cons_succ, r10_7]
  generalize hyy : [Value.slice none 0 0, .int .i64 0, .bool false] = yy
  have hw5 : hget (Ev.newRow (Ev.newRow g4 yy 0 []) [.slice none 0 0] 0 []) g4.size = some (.cells yy 0 true []) := by simp (disch := first | omega | (simp only [newRow_size, Array.size_setIfInBounds, Array.size_push]; done) | (simp only [newRow_size, Array.size_setIfInBounds, Array.size_push]; omega)) []
  have hd5 : hget (Ev.newRow (Ev.newRow g4 yy 0 []) [.slice none 0 0] 0 []) (g4.size + 1) = some (.cells [.slice none 0 0] 0 true []) := by simp (disch := first | omega | (simp only [newRow_size, Array.size_setIfInBounds, Array.size_push]; done) | (simp only [newRow_size, Array.size_setIfInBounds, Array.size_push]; omega)) []
  have k5 : Kept g4 (Ev.newRow (Ev.newRow g4 yy 0 []) [.slice none 0 0] 0 []) [] := kept_row (rowKept _ _ _ _) _ _ _
  have z5 : (Ev.newRow (Ev.newRow g4 yy 0 []) [.slice none 0 0] 0 []).size = g4.size + 2 := by simp
  generalize Ev.newRow (Ev.newRow g4 yy 0 []) [.slice none 0 0] 0 [] = g5 at hw5 hd5 k5 z5 ⊢
  have k35 := k4.trans k5
  have k25 := (k2.trans k3).trans k35
  have k05 := k1.trans k25
  have hl1' := (k25.get (by omega) (by simp)).trans hl1
  have hl2' := (k25.get (by omega) (by simp)).trans hl2
  have hw3' := (k35.get (by omega) (by simp)).trans hw3
  have p0 : Pair h g5 (g4.size + 1) [g4.size + 1] noP (.pointer (some ⟨h.size, 0, none⟩)) [] 0 [h.size] yy g2.size noP (.pointer (some ⟨h.size + 1, 0, none⟩)) [] 0 [h.size + 1] yy g4.size := by
    subst hyy
    refine ⟨⟨⟨.inr ⟨h.size, none, rfl, rfl, ⟨hl1', fun _ => rfl, nofun⟩, rfl⟩, ⟨_, rfl, .inl ⟨.inl rfl, rfl⟩⟩, desk_new hd5, fun _ _ q => q, ?_, fun _ _ q => q, fun c q => q.elim⟩, Gd.nil, hw3', id, ?_, ?_, k05, ?_, ?_, by omega⟩, ⟨⟨.inr ⟨h.size + 1, none, rfl, rfl, ⟨hl2', fun _ => rfl, nofun⟩, rfl⟩, ⟨_, rfl, .inl ⟨.inl rfl, rfl⟩⟩, desk_new hd5, fun _ _ q => q, ?_, fun _ _ q => q, fun c q => q.elim⟩, Gd.nil, hw5, id, ?_, ?_, k05, ?_, ?_, by omega⟩, ?_, fun _ _ q => q, fun _ _ q => q, ?_, ?_, id, id, by omega⟩
    all_goals first
      | (intro c hc q; simp at hc q; omega)
      | (intro c hc; simp at hc; omega)
      | (simp; omega)
      | simp
  refine loop_rule (fun m e g => ∃ (i : Nat) (P1 P2 : Nat → Prop) (f1 f2 : Flight) (l1 l2 : Int) (W1 W2 : List Nat) (cs1 cs2 : List Value) (D : List Nat), m = 120 - i ∧ i ≤ 120 ∧ l1 ≤ 300 * i ∧ l2 ≤ 300 * i ∧ e = [(0, v), (3, .pointer (some ⟨h.size, 0, none⟩)), (4, .pointer (some ⟨h.size + 1, 0, none⟩)), (5, .pointer (some ⟨g2.size, 0, none⟩)), (6, .pointer (some ⟨g4.size, 0, none⟩)), (7, .pointer (some ⟨g4.size + 1, 0, none⟩)), (8, .int .i64 i)] ∧ Pair h g (g4.size + 1) D P1 (.pointer (some ⟨h.size, 0, none⟩)) f1 l1 W1 cs1 g2.size P2 (.pointer (some ⟨h.size + 1, 0, none⟩)) f2 l2 W2 cs2 g4.size) ?_ _ 120 _ _ (by omega) ⟨0, _, _, _, _, _, _, _, _, _, _, _, by omega, by omega, by omega, by omega, rfl, p0⟩
  clear p0 hw3 hw5 hd5 hl1 hl2 hl1' hl2' hw3' hyy
  rintro m e g again ⟨i, P1, P2, f1, f2, l1, l2, W1, W2, cs1, cs2, D, rfl, hi120, hl1, hl2, rfl, sc⟩ ih
  have hw1 : IntKind.i64.wrap ((i : Int) + 1) = ((i + 1 : Nat) : Int) := by rw [wrap_id (by omega) (by omega)]; rfl
  by_cases hlt : i < script.length ∧ i < 120
  · obtain ⟨x, hx⟩ : ∃ x, script[i]? = some x := ⟨_, List.getElem?_eq_getElem hlt.1⟩
    have sg := SlR.imp s (ok' := fun c => ok c ∧ c < h.size) (R' := StpC (fun c => ok c ∧ c < h.size)) (h' := g) (fun c hc q => ⟨q, hc⟩) (fun cs x _ q => StpC.imp q (fun c hc q => ⟨q, hc⟩) (keep_of sc.a.kg.c (by simp))) (keep_of sc.a.kg.c (by simp))
    obtain ⟨bx, o, c, csx, es, lv, an, rfl, hk, hg, hle, hx5⟩ := sg.at' hx
    have hcl : ((csx.drop (o + i * 6)).take 6).length = 6 := by simp; omega
    have hgs := lt_of_get hg
    have hon : (csx.drop (o + i * 6 + 1)).take 1 = [.int .i64 x.on] := by
      obtain ⟨vc, e, _⟩ := hx5
      have := congrArg (fun z => (z.drop 1).take 1) e
      simp only [List.drop_take, List.drop_drop, List.take_take] at this
      simpa using this
    by_cases hon0 : x.on = 0
    · obtain ⟨vq, hcs, hvq⟩ := sc.a.pl.rf
      have oq := hvq.one
      simp only [oneCell] at oq
      have hwat := sc.a.wat
      rw [hcs] at hwat
      have hws := lt_of_get hwat
      simp (disch := first | omega | (simp only [newRow_size, Array.size_setIfInBounds, Array.size_push]; done) | (simp only [newRow_size, Array.size_setIfInBounds, Array.size_push]; omega)) [l10_17, r10_9, hg, hl, eqT, eqF, neT, neF, ltT, ltF, leT, leF, nltT, nltF, nleT, nleF, nneT, nneF, List.getElem?_cons_zero, List.getElem?_cons_succ, r10_10, r10_11, hon, hon0, d10_12, hwat, oq]
      rw [← hcs]
      refine Ans.nextE (plays_spec (F := F) (by omega) sc.a.pl sc.a.good (by omega) hx5) ?_
      rintro u g8 ⟨cs', W', D', P', rfl, pl8, k8, hW', hD', hP'⟩
      obtain ⟨gq', lb1, lb2⟩ := sc.a.good.step false x
      obtain ⟨vq', hcs', hvq'⟩ := pl8.rf
      have oq' := hvq'.one
      simp only [oneCell] at oq'
      have hwb8 := (k8.get hws (fun q => by
        rcases List.mem_append.1 q with r | r
        · exact sc.a.wW r
        · exact sc.a.wD r)).trans hwat
      have hwb8s := lt_of_get hwb8
      have pr := sc.play gq' pl8 k8 hW' hD' hP'
      rw [hcs']
      simp (disch := first | omega | (simp only [newRow_size, Array.size_setIfInBounds, Array.size_push]; done) | (simp only [newRow_size, Array.size_setIfInBounds, Array.size_push]; omega)) [hwb8, oq', eqT, eqF, neT, neF, ltT, ltF, leT, leF, nltT, nltF, nleT, nleF, nneT, nneF, List.getElem?_cons_zero, List.getElem?_cons_succ, r10_14, r10_16, hw1]
      rw [← hcs']
      exact ih (120 - (i + 1)) _ _ (by omega) ⟨i + 1, _, _, _, _, _, _, _, _, _, _, _, rfl, by omega, by push_cast; omega, by push_cast; omega, rfl, pr⟩
    · obtain ⟨vq, hcs, hvq⟩ := sc.b.pl.rf
      have oq := hvq.one
      simp only [oneCell] at oq
      have hwat := sc.b.wat
      rw [hcs] at hwat
      have hws := lt_of_get hwat
      simp (disch := first | omega | (simp only [newRow_size, Array.size_setIfInBounds, Array.size_push]; done) | (simp only [newRow_size, Array.size_setIfInBounds, Array.size_push]; omega)) [l10_17, r10_9, hg, hl, eqT, eqF, neT, neF, ltT, ltF, leT, leF, nltT, nltF, nleT, nleF, nneT, nneF, List.getElem?_cons_zero, List.getElem?_cons_succ, r10_10, r10_11, hon, hon0, d10_13, hwat, oq]
      rw [← hcs]
      refine Ans.nextE (plays_spec (F := F) (by omega) sc.b.pl sc.b.good (by omega) hx5) ?_
      rintro u g8 ⟨cs', W', D', P', rfl, pl8, k8, hW', hD', hP'⟩
      obtain ⟨gq', lb1, lb2⟩ := sc.b.good.step false x
      obtain ⟨vq', hcs', hvq'⟩ := pl8.rf
      have oq' := hvq'.one
      simp only [oneCell] at oq'
      have hwb8 := (k8.get hws (fun q => by
        rcases List.mem_append.1 q with r | r
        · exact sc.b.wW r
        · exact sc.b.wD r)).trans hwat
      have hwb8s := lt_of_get hwb8
      have pr := sc.swap.play gq' pl8 k8 hW' hD' hP'
      rw [hcs']
      simp (disch := first | omega | (simp only [newRow_size, Array.size_setIfInBounds, Array.size_push]; done) | (simp only [newRow_size, Array.size_setIfInBounds, Array.size_push]; omega)) [hwb8, oq', eqT, eqF, neT, neF, ltT, ltF, leT, leF, nltT, nltF, nleT, nleF, nneT, nneF, List.getElem?_cons_zero, List.getElem?_cons_succ, r10_14, r10_16, hw1]
      rw [← hcs']
      exact ih (120 - (i + 1)) _ _ (by omega) ⟨i + 1, _, _, _, _, _, _, _, _, _, _, _, rfl, by omega, by push_cast; omega, by push_cast; omega, rfl, pr.swap⟩
  · have fin : ∀ (e : Env), Ans (evC F (cf F) (.seq (.region r10_18 [4, 5, 6, 10]) (.seq (.region r10_19 [5, 6, 10, 11]) (.seq (.region r10_20 [2]) .ret))) (endK (cfX XD) [ARes.tmp 2]) noK (endK (cfX XD) [ARes.tmp 2]) ((0, v) :: (3, .pointer (some ⟨h.size, 0, none⟩)) :: (4, .pointer (some ⟨h.size + 1, 0, none⟩)) :: (5, .pointer (some ⟨g2.size, 0, none⟩)) :: (6, .pointer (some ⟨g4.size, 0, none⟩)) :: (7, .pointer (some ⟨g4.size + 1, 0, none⟩)) :: (8, .int .i64 i) :: e) g []) Q := by
      intro e
      have ga := sc.a.good.len
      have gb := sc.b.good.len
      simp (disch := first | omega | (simp only [newRow_size, Array.size_setIfInBounds, Array.size_push]; done) | (simp only [newRow_size, Array.size_setIfInBounds, Array.size_push]; omega)) [r10_18]
      refine Ans.next (sc.a.pl.ls.numbers (F := F) (by omega) sc.a.good.w ga (by omega)) ?_
      rintro u1 g10 ⟨su1, k10⟩
      have y10 := k10.1
      have lb := sc.b.pl.ls.kept k10 (by simp)
      simp (disch := first | omega | (simp only [newRow_size, Array.size_setIfInBounds, Array.size_push]; done) | (simp only [newRow_size, Array.size_setIfInBounds, Array.size_push]; omega)) [r10_19]
      refine Ans.next (lb.numbers (F := F) (by omega) sc.b.good.w gb (by omega)) ?_
      rintro u2 g11 ⟨su2, k11⟩
      have y11 := k11.1
      have k1011 := k10.trans k11
      obtain ⟨vq1, hcs1, hvq1⟩ := sc.a.pl.rf
      have oq1 := hvq1.one
      simp only [oneCell] at oq1
      obtain ⟨vq2, hcs2, hvq2⟩ := sc.b.pl.rf
      have oq2 := hvq2.one
      simp only [oneCell] at oq2
      have hwa := (k1011.get (lt_of_get sc.a.wat) (by simp)).trans sc.a.wat
      have hwb := (k1011.get (lt_of_get sc.b.wat) (by simp)).trans sc.b.wat
      rw [hcs1] at hwa
      rw [hcs2] at hwb
      have rfa := sc.a.pl.rf.imp (ok' := P1) (fun _ _ q => q) (keep_of k1011.c (by simp))
      have rfb := sc.b.pl.rf.imp (ok' := P2) (fun _ _ q => q) (keep_of k1011.c (by simp))
      have su1' : SlR (fun c => g.size ≤ c) 1 IntC g11 u1 (f1.map (·.1)) := SlI.imp su1 (fun _ _ q => q) (keep_of k11.c (by simp))
      have hwas := lt_of_get hwa
      have hwbs := lt_of_get hwb
      simp (disch := first | omega | (simp only [newRow_size, Array.size_setIfInBounds, Array.size_push]; done) | (simp only [newRow_size, Array.size_setIfInBounds, Array.size_push]; omega)) [r10_20, hwa, oq1]
      rw [← hcs1]
      refine Ans.next (refNumbers_spec (F := F) (by omega) rfa ga) ?_
      rintro u3 g12 ⟨su3, k12⟩
      have y12 := k12.1
      simp (disch := first | omega | (simp only [newRow_size, Array.size_setIfInBounds, Array.size_push]; done) | (simp only [newRow_size, Array.size_setIfInBounds, Array.size_push]; omega)) []
      refine Ans.next (ints_same (F := F) (by omega) (SlI.imp su1' (ok' := fun c => g.size ≤ c) (fun _ _ q => q) (keep_of k12.c (by simp))) su3 (by simp; omega)) ?_
      rintro u4 g13 ⟨rfl, rfl⟩
      have hwb13 := (k12.get hwbs (by simp)).trans hwb
      simp (disch := first | omega | (simp only [newRow_size, Array.size_setIfInBounds, Array.size_push]; done) | (simp only [newRow_size, Array.size_setIfInBounds, Array.size_push]; omega)) [hwb13, oq2, eqT, eqF, neT, neF, ltT, ltF, leT, leF, nltT, nltF, nleT, nleF, nneT, nneF, List.getElem?_cons_zero, List.getElem?_cons_succ]
      rw [← hcs2]
      refine Ans.next (refNumbers_spec (F := F) (by omega) (rfb.imp (ok' := P2) (fun _ _ q => q) (keep_of k12.c (by simp))) gb) ?_
      rintro u5 g14 ⟨su5, k14⟩
      have y14 := k14.1
      simp (disch := first | omega | (simp only [newRow_size, Array.size_setIfInBounds, Array.size_push]; done) | (simp only [newRow_size, Array.size_setIfInBounds, Array.size_push]; omega)) []
      refine Ans.next (ints_same (F := F) (by omega) (SlI.imp su2 (ok' := fun c => g10.size ≤ c) (fun _ _ q => q) (keep_of (k12.trans k14).c (by simp))) su5 (by simp; omega)) ?_
      rintro u6 g15 ⟨rfl, rfl⟩
      simp (disch := first | omega | (simp only [newRow_size, Array.size_setIfInBounds, Array.size_push]; done) | (simp only [newRow_size, Array.size_setIfInBounds, Array.size_push]; omega)) [eqT, eqF, neT, neF, ltT, ltF, leT, leF, nltT, nltF, nleT, nleF, nneT, nneF, List.getElem?_cons_zero, List.getElem?_cons_succ]
      refine Ans.next (knownK (F := F) (by omega) _) ?_
      rintro u h2 ⟨rfl, k2⟩
      simp (disch := first | omega | (simp only [newRow_size, Array.size_setIfInBounds, Array.size_push]; done) | (simp only [newRow_size, Array.size_setIfInBounds, Array.size_push]; omega)) []
      subst hQ
      exact Ans.of rfl
    by_cases h1' : i < script.length
    · simp (disch := first | omega | (simp only [newRow_size, Array.size_setIfInBounds, Array.size_push]; done) | (simp only [newRow_size, Array.size_setIfInBounds, Array.size_push]; omega)) [l10_17, r10_9, hl, eqT, eqF, neT, neF, ltT, ltF, leT, leF, nltT, nltF, nleT, nleF, nneT, nneF, List.getElem?_cons_zero, List.getElem?_cons_succ]
      exact fin _
    · simp (disch := first | omega | (simp only [newRow_size, Array.size_setIfInBounds, Array.size_push]; done) | (simp only [newRow_size, Array.size_setIfInBounds, Array.size_push]; omega)) [l10_17, r10_9, hl, eqT, eqF, neT, neF, ltT, ltF, leT, leF, nltT, nltF, nleT, nleF, nneT, nneF, List.getElem?_cons_zero, List.getElem?_cons_succ]
      exact fin _

end Go.Proofs.Ytmenfnapbggglaa
