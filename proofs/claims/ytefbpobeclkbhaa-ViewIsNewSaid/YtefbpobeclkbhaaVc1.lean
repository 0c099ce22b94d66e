/- begins; a script as memory holds it; ViewPlays. -/
import Derived.Test.YtefbpobeclkbhaaVc0
set_option linter.unusedSimpArgs false
set_option linter.unusedVariables false
namespace Go.Proofs.Ytefbpobeclkbhaa
open Go.Ev

theorem begins_spec {F : Nat} (hF : 3 ≤ F) (h : H) : Ans (cf F 11 [] h) fun v h' => v = .bool true ∧ Kept h h' [] := by
  obtain ⟨F, rfl⟩ : ∃ G, F = G + 1 := ⟨F - 1, by omega⟩
  rw [cf_step (a := a11) rfl rfl (by simp [a11])]
  simp (disch := first | omega | (simp only [newRow_size, Array.size_setIfInBounds, Array.size_push]; done) | (simp only [newRow_size, Array.size_setIfInBounds, Array.size_push]; omega)) [a11, r11_0, r11_1]
  refine Ans.next (New_spec (F := F) (by omega) h 3 (by omega) (by omega)) ?_
  rintro v h1 ⟨b, r, rfl, s1, zb, zr, k1⟩
  have gd : Good (first 3) := Good.first (by omega) (by omega)
  simp (disch := first | omega | (simp only [newRow_size, Array.size_setIfInBounds, Array.size_push]; done) | (simp only [newRow_size, Array.size_setIfInBounds, Array.size_push]; omega)) [r11_2, r11_4, eqT, eqF, neT, neF, ltT, ltF, leT, leF, nltT, nltF, nleT, nleF, nneT, nneF, flipX, List.getElem?_cons_zero, List.getElem?_cons_succ]
  refine Ans.next (Promote_spec (F := F) (by omega) s1 gd 2 3) ?_
  rintro v h2 ⟨rfl, ⟨r2, s2, f2⟩, k2⟩
  have e2 : prom (first 3) 2 3 = (121, first 3) := rfl
  rw [e2] at s2 ⊢
  simp (disch := first | omega | (simp only [newRow_size, Array.size_setIfInBounds, Array.size_push]; done) | (simp only [newRow_size, Array.size_setIfInBounds, Array.size_push]; omega)) [r11_5]
  refine Ans.next (Settle_spec (F := F) (by omega) s2 (by simp [first]) 1 1) ?_
  rintro v h3 ⟨rfl, s3, k3⟩
  have e3 : setl (first 3) 1 1 = (0, ⟨3, [⟨1, 1, 2⟩], true⟩) := by rfl
  have gd3 : Good ⟨3, [⟨1, 1, 2⟩], true⟩ := by have := gd.setl 1 1; rw [e3] at this; exact this
  rw [e3] at s3 ⊢
  simp (disch := first | omega | (simp only [newRow_size, Array.size_setIfInBounds, Array.size_push]; done) | (simp only [newRow_size, Array.size_setIfInBounds, Array.size_push]; omega)) [r11_6]
  refine Ans.next (Promote_spec (F := F) (by omega) s3 gd3 2 3) ?_
  rintro v h4 ⟨rfl, ⟨r4, s4, f4⟩, k4⟩
  have e4 : prom ⟨3, [⟨1, 1, 2⟩], true⟩ 2 3 = (0, ⟨3, [⟨1, 1, 2⟩, ⟨2, 2, 3⟩], false⟩) := by rfl
  rw [e4] at s4 ⊢
  simp (disch := first | omega | (simp only [newRow_size, Array.size_setIfInBounds, Array.size_push]; done) | (simp only [newRow_size, Array.size_setIfInBounds, Array.size_push]; omega)) [r11_7, eqT, eqF, neT, neF, ltT, ltF, leT, leF, nltT, nltF, nleT, nleF, nneT, nneF, flipX, List.getElem?_cons_zero, List.getElem?_cons_succ]
  refine Ans.next (Now_spec (F := F) (by omega) s4 (by simp)) ?_
  rintro v h5 ⟨rfl, k5⟩
  have e5 : Sv.now ⟨3, [⟨1, 1, 2⟩, ⟨2, 2, 3⟩], false⟩ = ⟨2, 2, 3⟩ := by rfl
  rw [e5]
  simp (disch := first | omega | (simp only [newRow_size, Array.size_setIfInBounds, Array.size_push]; done) | (simp only [newRow_size, Array.size_setIfInBounds, Array.size_push]; omega)) [Vw.val, Vw.cells, eqT, eqF, neT, neF, ltT, ltF, leT, leF, nltT, nltF, nleT, nleF, nneT, nneF, flipX, List.getElem?_cons_zero, List.getElem?_cons_succ]
  refine Ans.next (Settled_spec (F := F) (by omega) (s4.frame k5)) ?_
  rintro v h6 ⟨rfl, k6⟩
  simp (disch := first | omega | (simp only [newRow_size, Array.size_setIfInBounds, Array.size_push]; done) | (simp only [newRow_size, Array.size_setIfInBounds, Array.size_push]; omega)) []
  refine Ans.of ⟨rfl, ?_⟩
  have f2' : ∀ q, r2 = some q → h.size ≤ q := by
    intro q e
    have y1 := k1.1
    rcases f2 with e' | ⟨q', e', hq⟩
    · rw [e'] at e; cases e; exact zr
    · rw [e'] at e; cases e; omega
  have nin : ∀ (r : Option Nat), (∀ q, r = some q → h.size ≤ q) → ∀ c, c < h.size → c ∉ b :: r.toList := by
    intro r hr c hc hm
    simp only [List.mem_cons, Option.mem_toList, Option.mem_def] at hm
    rcases hm with e | e
    · omega
    · have := hr c e; omega
  have y1 := k1.1
  have y2 := k2.1
  have y3 := k3.1
  have y4 := k4.1
  have y5 := k5.1
  have y6 := k6.1
  refine ⟨by omega, fun c hc _ => ?_⟩
  rw [k6.get (by omega) (by simp), k5.get (by omega) (by simp), k4.get (by omega) (nin r2 f2' c hc), k3.get (by omega) (by simp; omega), k2.get (by omega) (nin (some r) (by simp [zr]) c hc), k1.get hc (by simp)]

/-- A script of acts, found below block N. -/
def ScAt (N : Nat) (h : H) (v : Value) (acts : List Act) : Prop :=
  (lenV v = some (.int .i64 0) ∧ acts = []) ∨ ∃ sb so c cs es lv an, v = .slice (some ⟨sb, so, none⟩) acts.length c ∧ sb < N ∧ hget h sb = some (.cells cs es lv an) ∧
    ∀ (i : Nat) (a : Act), acts[i]? = some a → (cs.drop (so + i * 24)).take 24 = a.cells ∧ so + i * 24 + 24 ≤ cs.length ∧ a.Ok

theorem ScAt.len {N : Nat} {h : H} {v : Value} {acts : List Act} (s : ScAt N h v acts) : lenV v = some (.int .i64 acts.length) := by
  rcases s with ⟨e, rfl⟩ | ⟨sb, so, c, cs, es, lv, an, rfl, _⟩
  · exact e
  · simp

theorem ScAt.kept {N : Nat} {h h' : H} {v : Value} {acts : List Act} {L : List Nat} (s : ScAt N h v acts) (k : Kept h h' L) (hL : ∀ c, c < N → c ∉ L) : ScAt N h' v acts := by
  rcases s with s | ⟨sb, so, c, cs, es, lv, an, e, hn, hg, hi⟩
  · exact .inl s
  · exact .inr ⟨sb, so, c, cs, es, lv, an, e, hn, (k.get (lt_of_get hg) (hL sb hn)).trans hg, hi⟩

theorem Pair.kept {h h' : H} {b : Nat} {r r2 : Option Nat} {x : Sv} {L : List Nat} (s : Pair h b r r2 x) (k : Kept h h' L) (hb : b ∉ L) (hr : ∀ q, r = some q → q ∉ L) (hr2 : ∀ q, r2 = some q → q ∉ L) : Pair h' b r r2 x :=
  ⟨s.p.kept k hb hr, s.d.kept k hr2, s.nb, s.nr⟩

theorem Pair.ltb {h : H} {b : Nat} {r r2 : Option Nat} {x : Sv} (s : Pair h b r r2 x) : b < h.size := lt_of_get s.p.at'
theorem Pair.ltr {h : H} {b : Nat} {r r2 : Option Nat} {x : Sv} (s : Pair h b r r2 x) : ∀ q, r = some q → q < h.size := by
  intro q e
  subst e
  exact s.p.vs.lt
theorem Pair.ltd {h : H} {b : Nat} {r r2 : Option Nat} {x : Sv} (s : Pair h b r r2 x) : ∀ q, r2 = some q → q < h.size := by
  intro q e
  have := s.d
  subst e
  exact this.lt

/-- Two services and the box in which a law holds the document's. -/
structure Both (N : Nat) (h : H) (b B : Nat) (r r2 : Option Nat) (x : Sv) : Prop where
  s : Pair h b r r2 x
  g : Good x
  box : hget h B = some (.cells [.int .i64 x.nodes, sl r2 x.vs.length, .bool x.st] 0 true [])
  nb : N ≤ b
  nB : N ≤ B
  ne : b ≠ B
  nr : ∀ q, r = some q → N ≤ q ∧ q ≠ B
  nr2 : ∀ q, r2 = some q → q ≠ B

theorem Both.frame {N : Nat} {h h' : H} {b B : Nat} {r r2 : Option Nat} {x : Sv} (s : Both N h b B r r2 x) (k : Kept h h' []) : Both N h' b B r r2 x :=
  ⟨s.s.frame k, s.g, (k.get (lt_of_get s.box) (by simp)).trans s.box, s.nb, s.nB, s.ne, s.nr, s.nr2⟩

/-- Behind an act, and the document's service laid into its box again. -/
theorem Both.step {N : Nat} {h h1 : H} {b B : Nat} {r r2 : Option Nat} {x : Sv} {a : Act} {v : Value} (s : Both N h b B r r2 x) (p : playedPost h b r r2 x a v h1) :
    ∃ r' r2', v = .tuple ⟨[RV r2' (actM x a), .bool true]⟩ ∧ B < h1.size ∧ hget h1 B = some (.cells [.int .i64 x.nodes, sl r2 x.vs.length, .bool x.st] 0 true []) ∧
      Both N (h1.setIfInBounds B (.cells [.int .i64 (actM x a).nodes, sl r2' (actM x a).vs.length, .bool (actM x a).st] 0 true [])) b B r' r2' (actM x a) ∧ fresh h r r' ∧ fresh h r2 r2' ∧
      Kept h (h1.setIfInBounds B (.cells [.int .i64 (actM x a).nodes, sl r2' (actM x a).vs.length, .bool (actM x a).st] 0 true [])) (b :: B :: r.toList) := by
  obtain ⟨r', r2', rfl, s1, f1, f2, k1⟩ := p
  have y1 := k1.1
  have hB := lt_of_get s.box
  have hb := s.s.ltb
  have hr' : ∀ q, r' = some q → N ≤ q ∧ q ≠ B := by
    intro q e
    rcases f1 with e' | ⟨q', e', hq⟩
    · exact s.nr q (by rw [← e', e])
    · rw [e] at e'; cases e'
      have := s.nb
      omega
  have hr2' : ∀ q, r2' = some q → q ≠ B := by
    intro q e
    rcases f2 with e' | ⟨q', e', hq⟩
    · exact s.nr2 q (by rw [← e', e])
    · rw [e] at e'; cases e'
      omega
  have nin : B ∉ b :: r.toList := by
    intro hm
    simp only [List.mem_cons, Option.mem_toList, Option.mem_def] at hm
    rcases hm with e | e
    · exact s.ne e.symm
    · exact (s.nr B e).2 rfl
  have kB : ∀ y, Kept h1 (h1.setIfInBounds B y) [B] := fun y => ⟨(by first | omega | (simp only [newRow_size, Array.size_setIfInBounds, Array.size_push]; done) | (simp only [newRow_size, Array.size_setIfInBounds, Array.size_push]; omega)), fun c hc hn => by
    rw [List.mem_singleton] at hn
    simp (disch := first | omega | (simp only [newRow_size, Array.size_setIfInBounds, Array.size_push]; done) | (simp only [newRow_size, Array.size_setIfInBounds, Array.size_push]; omega)) []⟩
  refine ⟨r', r2', rfl, by omega, (k1.get hB nin).trans s.box, ⟨?_, s.g.actM a, ?_, s.nb, s.nB, s.ne, hr', hr2'⟩, f1, f2, ?_⟩
  · refine s1.kept (kB _) ?_ ?_ ?_
    · simpa using s.ne
    · intro q e; simpa using (hr' q e).2
    · intro q e; simpa using hr2' q e
  · simp (disch := first | omega | (simp only [newRow_size, Array.size_setIfInBounds, Array.size_push]; done) | (simp only [newRow_size, Array.size_setIfInBounds, Array.size_push]; omega)) []
  · refine Kept.trans (k1.weak ?_) ((kB _).weak (by simp))
    intro c hc
    simp only [List.mem_cons] at hc ⊢
    rcases hc with e | e
    · exact .inl e
    · exact .inr (.inr e)

set_option maxHeartbeats 1000000 in
theorem plays_spec {F : Nat} (hF : 1010 ≤ F) {h : H} {v : Value} {acts : List Act} (sc : ScAt h.size h v acts) (n : Int) :
    Ans (cf F 6 [.int .i64 n, v] h) fun v h' => v = .bool true := by
  obtain ⟨F, rfl⟩ : ∃ G, F = G + 1 := ⟨F - 1, by omega⟩
  rw [cf_step (a := a6) rfl rfl (by simp [a6])]
  simp (disch := first | omega | (simp only [newRow_size, Array.size_setIfInBounds, Array.size_push]; done) | (simp only [newRow_size, Array.size_setIfInBounds, Array.size_push]; omega)) [a6, r6_0, r6_1]
  refine Ans.next (begins_spec (F := F) (by omega) h) ?_
  rintro v1 h1 ⟨rfl, k1⟩
  have y1 := k1.1
  simp (disch := first | omega | (simp only [newRow_size, Array.size_setIfInBounds, Array.size_push]; done) | (simp only [newRow_size, Array.size_setIfInBounds, Array.size_push]; omega)) [r6_2, r6_4]
  by_cases hn : n < 1 ∨ 5 < n
  · rw [New_bad (by omega) h1 n hn]
    simp (disch := first | omega | (simp only [newRow_size, Array.size_setIfInBounds, Array.size_push]; done) | (simp only [newRow_size, Array.size_setIfInBounds, Array.size_push]; omega)) [r6_5, eqT, eqF, neT, neF, ltT, ltF, leT, leF, nltT, nltF, nleT, nleF, nneT, nneF, flipX, List.getElem?_cons_zero, List.getElem?_cons_succ]
    refine Ans.next (rNew_bad (F := F) (by omega) h1 n hn) ?_
    rintro v2 h2 ⟨rfl, k2⟩
    simp (disch := first | omega | (simp only [newRow_size, Array.size_setIfInBounds, Array.size_push]; done) | (simp only [newRow_size, Array.size_setIfInBounds, Array.size_push]; omega)) [RV, r6_6, r6_8, r6_9, eqT, eqF, neT, neF, ltT, ltF, leT, leF, nltT, nltF, nleT, nleF, nneT, nneF, flipX, List.getElem?_cons_zero, List.getElem?_cons_succ]
    exact Ans.of rfl
  · refine Ans.next (New_spec (F := F) (by omega) h1 n (by omega) (by omega)) ?_
    rintro v2 h2 ⟨b, r, rfl, s2, zb, zr, k2⟩
    have y2 := k2.1
    simp (disch := first | omega | (simp only [newRow_size, Array.size_setIfInBounds, Array.size_push]; done) | (simp only [newRow_size, Array.size_setIfInBounds, Array.size_push]; omega)) [r6_5, eqT, eqF, neT, neF, ltT, ltF, leT, leF, nltT, nltF, nleT, nleF, nneT, nneF, flipX, List.getElem?_cons_zero, List.getElem?_cons_succ]
    refine Ans.next (rNew_spec (F := F) (by omega) h2 n (by omega) (by omega)) ?_
    rintro v3 h3 ⟨r2, rfl, d3, z3, k3⟩
    have y3 := k3.1
    simp (disch := first | omega | (simp only [newRow_size, Array.size_setIfInBounds, Array.size_push]; done) | (simp only [newRow_size, Array.size_setIfInBounds, Array.size_push]; omega)) [RV, r6_6, r6_8, eqT, eqF, neT, neF, ltT, ltF, leT, leF, nltT, nltF, nleT, nleF, nneT, nneF, flipX, List.getElem?_cons_zero, List.getElem?_cons_succ, r6_10, r6_11]
    have hb := lt_of_get s2.at'
    have hr := s2.vs.lt
    have hd := d3.lt
    have bo : Both h.size (Ev.newRow h3 [.int .i64 (first n).nodes, .slice (some ⟨r2, 0, none⟩) (first n).vs.length (first n).vs.length, .bool (first n).st] 0 []) b h3.size (some r) (some r2) (first n) := by
      refine ⟨⟨(s2.frame k3).frame (row_kept _ _ _ _), d3.frame (row_kept _ _ _ _), ?_, ?_⟩, Good.first (by omega) (by omega), by simp, by omega, by omega, by omega, ?_, ?_⟩
      · intro e; cases e; omega
      · intro q e e'; cases e; cases e'; omega
      · intro q e; cases e; omega
      · intro q e; cases e; omega
    have sc3 : ScAt h.size (Ev.newRow h3 [.int .i64 (first n).nodes, .slice (some ⟨r2, 0, none⟩) (first n).vs.length (first n).vs.length, .bool (first n).st] 0 []) v acts :=
      (((sc.kept k1 (by simp)).kept k2 (by simp)).kept k3 (by simp)).kept (row_kept _ _ _ _) (by simp)
    generalize Ev.newRow h3 [.int .i64 (first n).nodes, .slice (some ⟨r2, 0, none⟩) (first n).vs.length (first n).vs.length, .bool (first n).st] 0 [] = h4 at bo sc3 ⊢
    have hs := stands_spec (F := F) (by omega) bo.s.p bo.s.d (by have := bo.g.len; omega)
    simp only [RV, sl_some] at hs
    refine Ans.next hs ?_
    rintro v5 h5 ⟨rfl, k5⟩
    have bo5 := bo.frame k5
    have sc5 := sc3.kept k5 (by simp)
    simp (disch := first | omega | (simp only [newRow_size, Array.size_setIfInBounds, Array.size_push]; done) | (simp only [newRow_size, Array.size_setIfInBounds, Array.size_push]; omega)) []
    generalize h3.size = B at bo5 ⊢
    generalize some r = ro at bo5
    generalize some r2 = r2o at bo5
    generalize first n = x at bo5
    clear bo sc3 hs d3 s2 hr hd k1 k2 k3 k5
    refine loop_rule (fun m s g => ∃ (i : Nat) (x : Sv) (r r2 : Option Nat), m = 1000 - i ∧ i ≤ 160 ∧ s = [(1, v), (6, .pointer (some ⟨b, 0, none⟩)), (8, .pointer (some ⟨B, 0, none⟩)), (10, .bool true), (11, .int .i64 i)] ∧ Both h.size g b B r r2 x ∧ ScAt h.size g v acts) ?_ _ 1000 _ _ (by omega) ⟨0, _, _, _, rfl, by omega, rfl, bo5, sc5⟩
    rintro m s g again ⟨i, x, r, r2, rfl, hi, rfl, bo, sc⟩ ih
    have hl := sc.len
    by_cases hlt : i < acts.length ∧ i < 160
    · obtain ⟨hlt1, hlt2⟩ := hlt
      rcases sc with ⟨_, rfl⟩ | ⟨sb, so, c, cs, es, lv, an, rfl, hN, hg, hi'⟩
      · simp at hlt1
      obtain ⟨a, ha⟩ : ∃ a, acts[i]? = some a := ⟨_, List.getElem?_eq_getElem hlt1⟩
      obtain ⟨q1, q2, ok⟩ := hi' i a ha
      have hw : IntKind.i64.wrap ((i : Int) + 1) = ((i + 1 : Nat) : Int) := by rw [IntKind.wrap_i64]; omega
      simp (disch := first | omega | (simp only [newRow_size, Array.size_setIfInBounds, Array.size_push]; done) | (simp only [newRow_size, Array.size_setIfInBounds, Array.size_push]; omega)) [l6_16, r6_12, d6_13, bo.box, hg, q1, eqT, eqF, neT, neF, ltT, ltF, leT, leF, nltT, nltF, nleT, nleF, nneT, nneF, flipX, List.getElem?_cons_zero, List.getElem?_cons_succ]
      have hp := played_spec (F := F) (by omega) bo.s bo.g ok
      simp only [RV, Act.val] at hp
      refine Ans.nextE hp ?_
      intro v6 h6 p6
      obtain ⟨r', r2', rfl, yB, eB, bo7, _, _, k7⟩ := bo.step p6
      have ho := one_sl r2' (actM x a).vs.length
      simp only [oneCell] at ho
      simp (disch := first | omega | (simp only [newRow_size, Array.size_setIfInBounds, Array.size_push]; done) | (simp only [newRow_size, Array.size_setIfInBounds, Array.size_push]; omega)) [RV, eB, ho, eqT, eqF, neT, neF, ltT, ltF, leT, leF, nltT, nltF, nleT, nleF, nneT, nneF, flipX, List.getElem?_cons_zero, List.getElem?_cons_succ]
      have bo7s := bo7.s
      have bo7g := bo7.g
      have bo7b := bo7.box
      have sc7 : ScAt h.size (h6.setIfInBounds B (.cells [.int .i64 (actM x a).nodes, sl r2' (actM x a).vs.length, .bool (actM x a).st] 0 true [])) (.slice (some ⟨sb, so, none⟩) acts.length c) acts := by
        refine ScAt.kept (.inr ⟨sb, so, c, cs, es, lv, an, rfl, hN, hg, hi'⟩) k7 ?_
        intro q hq hm
        simp only [List.mem_cons, Option.mem_toList, Option.mem_def] at hm
        have := bo.nb
        have := bo.nB
        rcases hm with e | e | e
        · omega
        · omega
        · have := (bo.nr q e).1; omega
      generalize h6.setIfInBounds B (.cells [.int .i64 (actM x a).nodes, sl r2' (actM x a).vs.length, .bool (actM x a).st] 0 true []) = h7 at *
      simp (disch := first | omega | (simp only [newRow_size, Array.size_setIfInBounds, Array.size_push]; done) | (simp only [newRow_size, Array.size_setIfInBounds, Array.size_push]; omega)) [r6_14, bo7b, eqT, eqF, neT, neF, ltT, ltF, leT, leF, nltT, nltF, nleT, nleF, nneT, nneF, flipX, List.getElem?_cons_zero, List.getElem?_cons_succ]
      have hs := stands_spec (F := F) (by omega) bo7s.p bo7s.d (by have := bo7g.len; omega)
      simp only [RV] at hs
      refine Ans.next hs ?_
      rintro v8 h8 ⟨rfl, k8⟩
      simp (disch := first | omega | (simp only [newRow_size, Array.size_setIfInBounds, Array.size_push]; done) | (simp only [newRow_size, Array.size_setIfInBounds, Array.size_push]; omega)) [r6_15, hw, eqT, eqF, neT, neF, ltT, ltF, leT, leF, nltT, nltF, nleT, nleF, nneT, nneF, flipX, List.getElem?_cons_zero, List.getElem?_cons_succ]
      exact ih (1000 - (i + 1)) _ _ (by omega) ⟨i + 1, _, r', r2', rfl, by omega, rfl, bo7.frame k8, sc7.kept k8 (by simp)⟩
    · by_cases hlt1 : i < acts.length
      · have : ¬ i < 160 := fun e => hlt ⟨hlt1, e⟩
        simp (disch := first | omega | (simp only [newRow_size, Array.size_setIfInBounds, Array.size_push]; done) | (simp only [newRow_size, Array.size_setIfInBounds, Array.size_push]; omega)) [l6_16, r6_12, hl, eqT, eqF, neT, neF, ltT, ltF, leT, leF, nltT, nltF, nleT, nleF, nneT, nneF, flipX, List.getElem?_cons_zero, List.getElem?_cons_succ, r6_17]
        exact Ans.of rfl
      · simp (disch := first | omega | (simp only [newRow_size, Array.size_setIfInBounds, Array.size_push]; done) | (simp only [newRow_size, Array.size_setIfInBounds, Array.size_push]; omega)) [l6_16, r6_12, hl, eqT, eqF, neT, neF, ltT, ltF, leT, leF, nltT, nltF, nleT, nleF, nneT, nneF, flipX, List.getElem?_cons_zero, List.getElem?_cons_succ, r6_17]
        exact Ans.of rfl

end Go.Proofs.Ytefbpobeclkbhaa
