/- The law's helpers: stands, played. -/
import Derived.Test.YtefbpobeclkbhaaVb9
set_option linter.unusedSimpArgs false
set_option linter.unusedVariables false
namespace Go.Proofs.Ytefbpobeclkbhaa
open Go.Ev

theorem stands_spec {F : Nat} (hF : 1003 ≤ F) {h : H} {b : Nat} {r r2 : Option Nat} {x : Sv} (s : SvAt h b 0 r x) (s2 : VsAt h r2 x.vs) (hmax : x.vs.length ≤ 1000) :
    Ans (cf F 22 [.pointer (some ⟨b, 0, none⟩), RV r2 x] h) fun v h' => v = .bool true ∧ Kept h h' [] := by
  obtain ⟨F, rfl⟩ : ∃ G, F = G + 1 := ⟨F - 1, by omega⟩
  rw [cf_step (a := a22) rfl rfl (by simp [a22])]
  simp (disch := first | omega | (simp only [newRow_size, Array.size_setIfInBounds, Array.size_push]; done) | (simp only [newRow_size, Array.size_setIfInBounds, Array.size_push]; omega)) [a22, r22_0, r22_1, RV]
  refine Ans.next (All_spec (F := F) (by omega) (s.frame (row_kept _ _ _ _)) hmax) ?_
  rintro v h1 ⟨q, rfl, e1, z1, k1⟩
  simp at z1
  have g1 := fun c => k1.get (b := c)
  have y1 := k1.1
  simp only [List.not_mem_nil, not_false_eq_true, forall_const, newRow_size] at g1 y1
  have k01 : Kept h h1 [] := Kept.trans (row_kept _ _ _ _) k1
  have hq := lt_of_get e1
  simp (disch := first | omega | (simp only [newRow_size, Array.size_setIfInBounds, Array.size_push]; done) | (simp only [newRow_size, Array.size_setIfInBounds, Array.size_push]; omega)) [d22_2]
  refine Ans.nextD (Now_spec (F := F) (by omega) (s.frame k01) hmax) ?_
  rintro v h2 ⟨rfl, k2⟩
  have g2 := fun c => k2.get (b := c)
  have y2 := k2.1
  simp only [List.not_mem_nil, not_false_eq_true, forall_const] at g2
  simp (disch := first | omega | (simp only [newRow_size, Array.size_setIfInBounds, Array.size_push]; done) | (simp only [newRow_size, Array.size_setIfInBounds, Array.size_push]; omega)) [g1, g2, eqT, eqF, neT, neF, ltT, ltF, leT, leF, nltT, nltF, nleT, nleF, nneT, nneF, flipX, List.getElem?_cons_zero, List.getElem?_cons_succ]
  refine Ans.nextD (rNow_spec (F := F) (r := r2) (by omega) ((s2.frame k01).frame k2) hmax) ?_
  rintro v h3 ⟨rfl, k3⟩
  have g3 := fun c => k3.get (b := c)
  have y3 := k3.1
  simp only [List.not_mem_nil, not_false_eq_true, forall_const] at g3
  simp (disch := first | omega | (simp only [newRow_size, Array.size_setIfInBounds, Array.size_push]; done) | (simp only [newRow_size, Array.size_setIfInBounds, Array.size_push]; omega)) [g1, g2, g3, eqT, eqF, neT, neF, ltT, ltF, leT, leF, nltT, nltF, nleT, nleF, nneT, nneF, flipX, List.getElem?_cons_zero, List.getElem?_cons_succ, Vw.val, Vw.cells]
  refine Ans.nextD (Settled_spec (F := F) (by omega) (((s.frame k01).frame k2).frame k3)) ?_
  rintro v h4 ⟨rfl, k4⟩
  have g4 := fun c => k4.get (b := c)
  have y4 := k4.1
  simp only [List.not_mem_nil, not_false_eq_true, forall_const] at g4
  have hsv := sameViews_spec (F := F) (by omega) (h := h4) (v := .slice (some ⟨q, 0, none⟩) x.vs.length x.vs.length) (w := sl r2 x.vs.length) (vs := x.vs)
    (.inr ⟨q, true, [], rfl, by rw [g4 q (by omega), g3 q (by omega), g2 q hq, e1]⟩) (SlV.of_sl ((((s2.frame k01).frame k2).frame k3).frame k4)) hmax
  have hsc : sameCell (sl r2 x.vs.length) (sl r2 x.vs.length) = true := by cases r2 <;> simp [sameCell]
  simp only [sameCell] at hsc
  simp (disch := first | omega | (simp only [newRow_size, Array.size_setIfInBounds, Array.size_push]; done) | (simp only [newRow_size, Array.size_setIfInBounds, Array.size_push]; omega)) [g1, g2, g3, g4, eqT, eqF, neT, neF, ltT, ltF, leT, leF, nltT, nltF, nleT, nleF, nneT, nneF, flipX, List.getElem?_cons_zero, List.getElem?_cons_succ, dk_go, chks_nil, chks_cons, chkA_nil, chkA_cons, chk1_no, chk1_yes, chkV_some, hAt_eq, hOf_some, hOf_none, sameV, sameL, sameCell, hsv, hsc]
  refine Ans.of ⟨rfl, (by first | omega | (simp only [newRow_size, Array.size_setIfInBounds, Array.size_push]; done) | (simp only [newRow_size, Array.size_setIfInBounds, Array.size_push]; omega)), ?_⟩
  intro c hc _
  simp (disch := first | omega | (simp only [newRow_size, Array.size_setIfInBounds, Array.size_push]; done) | (simp only [newRow_size, Array.size_setIfInBounds, Array.size_push]; omega)) [g4, g3, g2, g1]

def actM (x : Sv) (a : Act) : Sv :=
  if (wholeM x.now a).k = 1 then (prom x (wholeM x.now a).a (wholeM x.now a).b).2
  else if (wholeM x.now a).k = 2 then (setl x (wholeM x.now a).a (wholeM x.now a).b).2
  else if (wholeM x.now a).k = 3 then (takeM x (wholeM x.now a).a (wholeM x.now a).nk (wholeM x.now a).nn).1
  else x

theorem Good.takeM {x : Sv} (g : Good x) (fr k n : Int) : Good (takeM x fr k n).1 := by
  unfold Proofs.Ytefbpobeclkbhaa.takeM
  split
  · exact g
  split
  · exact g.setl _ _
  · exact g

theorem Good.actM {x : Sv} (g : Good x) (a : Act) : Good (actM x a) := by
  unfold Proofs.Ytefbpobeclkbhaa.actM
  split
  · exact g.prom _ _
  split
  · exact g.setl _ _
  split
  · exact g.takeM _ _ _
  · exact g

/-- Two services, the program's and the document's, that have no memory in common. -/
structure Pair (h : H) (b : Nat) (r r2 : Option Nat) (x : Sv) : Prop where
  p : SvAt h b 0 r x
  d : VsAt h r2 x.vs
  nb : r2 ≠ some b
  nr : ∀ q, r = some q → r2 ≠ some q

theorem Pair.frame {h h' : H} {b : Nat} {r r2 : Option Nat} {x : Sv} (s : Pair h b r r2 x) (k : Kept h h' []) : Pair h' b r r2 x := ⟨s.p.frame k, s.d.frame k, s.nb, s.nr⟩

def fresh (h : H) (r r' : Option Nat) : Prop := r' = r ∨ ∃ q, r' = some q ∧ h.size ≤ q

def playedPost (h : H) (b : Nat) (r r2 : Option Nat) (x : Sv) (a : Act) (v : Value) (h' : H) : Prop :=
  ∃ r' r2', v = .tuple ⟨[RV r2' (actM x a), .bool true]⟩ ∧ Pair h' b r' r2' (actM x a) ∧ fresh h r r' ∧ fresh h r2 r2' ∧ Kept h h' (b :: r.toList)

theorem played_spec {F : Nat} (hF : 1003 ≤ F) {h : H} {b : Nat} {r r2 : Option Nat} {x : Sv} (s : Pair h b r r2 x) (g : Good x) {a : Act} (ok : a.Ok) :
    Ans (cf F 23 [.pointer (some ⟨b, 0, none⟩), RV r2 x, a.val] h) (playedPost h b r r2 x a) := by
  obtain ⟨F, rfl⟩ : ∃ G, F = G + 1 := ⟨F - 1, by omega⟩
  have hmax := g.len
  have ho2 := one_sl r2 x.vs.length
  simp only [oneCell] at ho2
  rw [cf_step (a := a23) rfl rfl (by simp [a23])]
  simp (disch := first | omega | (simp only [newRow_size, Array.size_setIfInBounds, Array.size_push]; done) | (simp only [newRow_size, Array.size_setIfInBounds, Array.size_push]; omega)) [a23, r23_0, d23_1, RV, eqT, eqF, neT, neF, ltT, ltF, leT, leF, nltT, nltF, nleT, nleF, nneT, nneF, flipX, List.getElem?_cons_zero, List.getElem?_cons_succ, Act.val, Act.cells]
  refine Ans.nextD (rNow_spec (F := F) (r := r2) (by omega) (s.d.frame ⟨(by first | omega | (simp only [newRow_size, Array.size_setIfInBounds, Array.size_push]; done) | (simp only [newRow_size, Array.size_setIfInBounds, Array.size_push]; omega)), fun c hc _ => by simp (disch := first | omega | (simp only [newRow_size, Array.size_setIfInBounds, Array.size_push]; done) | (simp only [newRow_size, Array.size_setIfInBounds, Array.size_push]; omega)) []⟩) (by omega)) ?_
  rintro v h1 ⟨rfl, k1⟩
  have g1 := fun c => k1.get (b := c)
  have y1 := k1.1
  simp only [List.not_mem_nil, not_false_eq_true, forall_const, newRow_size] at g1 y1
  have oo := ok
  obtain ⟨al, ao, asm⟩ := ok
  simp (disch := first | omega | (simp only [newRow_size, Array.size_setIfInBounds, Array.size_push]; done) | (simp only [newRow_size, Array.size_setIfInBounds, Array.size_push]; omega)) [g1, eqT, eqF, neT, neF, ltT, ltF, leT, leF, nltT, nltF, nleT, nleF, nneT, nneF, flipX, List.getElem?_cons_zero, List.getElem?_cons_succ, al, List.take_of_length_le]
  have hw := whole_spec (F := F) (by omega) h1 x.now oo
  simp only [Act.val, Act.cells] at hw
  refine Ans.nextD hw ?_
  rintro v h2 ⟨rfl, k2⟩
  have g2 := fun c => k2.get (b := c)
  have y2 := k2.1
  simp only [List.not_mem_nil, not_false_eq_true, forall_const] at g2
  obtain ⟨wl, wo, ws⟩ := wholeM_ok x.now oo
  have am : actM x a = if (wholeM x.now a).k = 1 then (prom x (wholeM x.now a).a (wholeM x.now a).b).2
    else if (wholeM x.now a).k = 2 then (setl x (wholeM x.now a).a (wholeM x.now a).b).2
    else if (wholeM x.now a).k = 3 then (takeM x (wholeM x.now a).a (wholeM x.now a).nk (wholeM x.now a).nn).1
    else x := rfl
  generalize wholeM x.now a = w at wl wo am ⊢
  simp (disch := first | omega | (simp only [newRow_size, Array.size_setIfInBounds, Array.size_push]; done) | (simp only [newRow_size, Array.size_setIfInBounds, Array.size_push]; omega)) [g1, g2, eqT, eqF, neT, neF, ltT, ltF, leT, leF, nltT, nltF, nleT, nleF, nneT, nneF, flipX, List.getElem?_cons_zero, List.getElem?_cons_succ, dk_go, chks_nil, chks_cons, chkA_nil, chkA_cons, chk1_no, chk1_yes, chkV_some, hAt_eq, hOf_some, hOf_none, sameV, sameL, sameCell, al, wl, wo, asm, List.take_of_length_le, List.drop_eq_nil_of_le, r23_2, Act.val, Act.cells]
  have hb := lt_of_get s.p.at'
  have hr : ∀ q, r = some q → q < h.size := fun q e => by
    subst e
    exact s.p.vs.lt
  have nin : ∀ c, h.size ≤ c → c ∉ b :: r.toList := by
    intro c hc hm
    simp only [List.mem_cons, Option.mem_toList, Option.mem_def] at hm
    rcases hm with e | e
    · omega
    · have := hr c e; omega
  obtain ⟨E, hE⟩ : ∃ E, E = Array.setIfInBounds h2 (h.size + 1) (.cells (Value.int .i64 w.k :: .int .i64 w.a :: .int .i64 w.b :: .int .i64 w.nk :: .int .i64 w.nn :: w.rest) 0 true []) := ⟨_, rfl⟩
  rw [← hE]
  have e0 : hget E h.size = some (.cells [.int .i64 x.nodes, sl r2 x.vs.length, .bool x.st] 0 true []) := by rw [hE]; simp (disch := first | omega | (simp only [newRow_size, Array.size_setIfInBounds, Array.size_push]; done) | (simp only [newRow_size, Array.size_setIfInBounds, Array.size_push]; omega)) [g1, g2]
  have e1 : hget E (h.size + 1) = some (.cells (Value.int .i64 w.k :: .int .i64 w.a :: .int .i64 w.b :: .int .i64 w.nk :: .int .i64 w.nn :: w.rest) 0 true []) := by rw [hE]; simp (disch := first | omega | (simp only [newRow_size, Array.size_setIfInBounds, Array.size_push]; done) | (simp only [newRow_size, Array.size_setIfInBounds, Array.size_push]; omega)) []
  have e2 : hget E (h.size + 2) = some (.cells [.int .i64 0, .slice none 0 0, .bool false] 0 true []) := by rw [hE]; simp (disch := first | omega | (simp only [newRow_size, Array.size_setIfInBounds, Array.size_push]; done) | (simp only [newRow_size, Array.size_setIfInBounds, Array.size_push]; omega)) [g1, g2]
  have kE : Kept h E [] := by rw [hE]; exact ⟨(by first | omega | (simp only [newRow_size, Array.size_setIfInBounds, Array.size_push]; done) | (simp only [newRow_size, Array.size_setIfInBounds, Array.size_push]; omega)), fun c hc _ => by simp (disch := first | omega | (simp only [newRow_size, Array.size_setIfInBounds, Array.size_push]; done) | (simp only [newRow_size, Array.size_setIfInBounds, Array.size_push]; omega)) [g1, g2]⟩
  have yE : E.size = h2.size := by rw [hE]; simp
  have sE := s.frame kE
  clear hE k1 g1 k2 g2
  have hr2 : ∀ q, r2 = some q → q < h.size := fun q e => by
    have := s.d
    subst e
    exact this.lt
  have fin : ∀ (x' : Sv) (r' r2' : Option Nat) (h3 h4 hF : H), actM x a = x' → SvAt h3 b 0 r' x' → (r' = r ∨ ∃ q, r' = some q ∧ E.size ≤ q) → Kept E h3 (b :: r.toList) → VsAt h4 r2' x'.vs → (r2' = r2 ∨ ∃ q, r2' = some q ∧ h3.size ≤ q) → Kept h3 h4 [] → Kept h4 hF [h.size + 2] →
      Ans (some (.tuple ⟨[.agg ⟨[.int .i64 x'.nodes, sl r2' x'.vs.length, .bool x'.st]⟩, .bool true]⟩, hF)) (playedPost h b r r2 x a) := by
    intro x' r' r2' h3 h4 hF ex s3 f3 k3 d4 f4 k4 kF
    have hb3 := lt_of_get s3.at'
    have y3 := k3.1
    have y4 := k4.1
    have yF := kF.1
    have hr' : ∀ q, r' = some q → q < h3.size ∧ q ≠ h.size + 2 := by
      intro q e
      have h1 : q < h3.size := by
        have := s3.vs
        subst e
        exact this.lt
      refine ⟨h1, ?_⟩
      rcases f3 with e' | ⟨q', e', hq⟩
      · have := hr q (by rw [← e', e]); omega
      · rw [e] at e'; cases e'; omega
    have kF3 : Kept h3 hF [h.size + 2] := (k4.weak (by simp)).trans kF
    have hn2 : ∀ q, r2' = some q → q ≠ h.size + 2 ∧ q ≠ b ∧ r' ≠ some q := by
      intro q e
      rcases f4 with e' | ⟨q', e', hq⟩
      · rw [e'] at e
        have h1 := hr2 q e
        refine ⟨by omega, fun c => s.nb (by rw [e, c]), fun c => ?_⟩
        rcases f3 with e3 | ⟨q3, e3, h3⟩
        · exact s.nr q (by rw [← e3, c]) e
        · rw [c] at e3; cases e3; omega
      · rw [e] at e'; cases e'
        refine ⟨by omega, by omega, fun c => ?_⟩
        have := (hr' q c).1
        omega
    refine Ans.of ⟨r', r2', ?_, ⟨?_, ?_, ?_, ?_⟩, ?_, ?_, ?_⟩
    · rw [ex]; rfl
    · rw [ex]
      exact s3.kept kF3 (by simp; omega) (fun q e hm => by
        rw [List.mem_singleton] at hm
        exact (hr' q e).2 hm)
    · rw [ex]
      exact d4.kept kF (fun q e hm => by
        rw [List.mem_singleton] at hm
        exact (hn2 q e).1 hm)
    · intro e; exact (hn2 b e).2.1 rfl
    · intro q e1 e2; exact (hn2 q e2).2.2 e1
    · rcases f3 with e | ⟨q, e, hq⟩
      · exact .inl e
      · exact .inr ⟨q, e, by omega⟩
    · rcases f4 with e | ⟨q, e, hq⟩
      · exact .inl e
      · exact .inr ⟨q, e, by omega⟩
    · refine ⟨by omega, fun c hc hn => ?_⟩
      rw [kF3.get (b := c) (by omega) (by simp; omega), k3.get (b := c) (by omega) hn]
      exact kE.get hc (by simp)
  have d3' : ∀ {h3 : H}, Kept E h3 (b :: r.toList) → VsAt h3 r2 x.vs := fun k3 => sE.d.kept k3 (by
      intro q e hm
      simp only [List.mem_cons, Option.mem_toList, Option.mem_def] at hm
      rcases hm with e' | e'
      · exact s.nb (by rw [e, e'])
      · exact s.nr q e' e)
  by_cases c1 : w.k = 1
  · rw [if_pos c1] at am
    simp (disch := first | omega | (simp only [newRow_size, Array.size_setIfInBounds, Array.size_push]; done) | (simp only [newRow_size, Array.size_setIfInBounds, Array.size_push]; omega)) [r23_3, r23_4, eqT, eqF, neT, neF, ltT, ltF, leT, leF, nltT, nltF, nleT, nleF, nneT, nneF, flipX, List.getElem?_cons_zero, List.getElem?_cons_succ, e0, e1, e2]
    refine Ans.next (Promote_spec (F := F) (by omega) sE.p g _ _) ?_
    rintro v h3 ⟨rfl, ⟨r', s3, f3⟩, k3⟩
    have y3 := k3.1
    have q0 := (k3.get (b := h.size) (by omega) (nin _ (by omega))).trans e0
    have q1 := (k3.get (b := h.size + 1) (by omega) (nin _ (by omega))).trans e1
    have q2 := (k3.get (b := h.size + 2) (by omega) (nin _ (by omega))).trans e2
    simp (disch := first | omega | (simp only [newRow_size, Array.size_setIfInBounds, Array.size_push]; done) | (simp only [newRow_size, Array.size_setIfInBounds, Array.size_push]; omega)) [r23_5, eqT, eqF, neT, neF, ltT, ltF, leT, leF, nltT, nltF, nleT, nleF, nneT, nneF, flipX, List.getElem?_cons_zero, List.getElem?_cons_succ, q0, q1, q2]
    refine Ans.next (rPromote_spec (F := F) (by omega) (d3' k3) g w.a w.b) ?_
    rintro v h4 ⟨r2', rfl, d4, f4, k4⟩
    have y4 := k4.1
    have g4 := fun c => k4.get (b := c)
    simp only [List.not_mem_nil, not_false_eq_true, forall_const] at g4
    have ho3 := one_sl r2' (prom x w.a w.b).2.vs.length
    simp only [oneCell] at ho3
    simp (disch := first | omega | (simp only [newRow_size, Array.size_setIfInBounds, Array.size_push]; done) | (simp only [newRow_size, Array.size_setIfInBounds, Array.size_push]; omega)) [r23_6, eqT, eqF, neT, neF, ltT, ltF, leT, leF, nltT, nltF, nleT, nleF, nneT, nneF, flipX, List.getElem?_cons_zero, List.getElem?_cons_succ, RV, g4, q0, q1, q2, ho3]
    refine fin _ r' r2' h3 h4 _ am s3 f3 k3 d4 f4 k4 ⟨(by first | omega | (simp only [newRow_size, Array.size_setIfInBounds, Array.size_push]; done) | (simp only [newRow_size, Array.size_setIfInBounds, Array.size_push]; omega)), fun c hc hn => ?_⟩
    rw [List.mem_singleton] at hn
    simp (disch := first | omega | (simp only [newRow_size, Array.size_setIfInBounds, Array.size_push]; done) | (simp only [newRow_size, Array.size_setIfInBounds, Array.size_push]; omega)) []
  rw [if_neg c1] at am
  by_cases c2 : w.k = 2
  · rw [if_pos c2] at am
    simp (disch := first | omega | (simp only [newRow_size, Array.size_setIfInBounds, Array.size_push]; done) | (simp only [newRow_size, Array.size_setIfInBounds, Array.size_push]; omega)) [r23_3, r23_7, r23_8, eqT, eqF, neT, neF, ltT, ltF, leT, leF, nltT, nltF, nleT, nleF, nneT, nneF, flipX, List.getElem?_cons_zero, List.getElem?_cons_succ, e0, e1, e2]
    refine Ans.next (Settle_spec (F := F) (by omega) sE.p (by omega) w.a w.b) ?_
    rintro v h3 ⟨rfl, s3, k3'⟩
    have k3 : Kept E h3 (b :: r.toList) := k3'.weak (by simp)
    have y3 := k3.1
    have q0 := (k3.get (b := h.size) (by omega) (nin _ (by omega))).trans e0
    have q1 := (k3.get (b := h.size + 1) (by omega) (nin _ (by omega))).trans e1
    have q2 := (k3.get (b := h.size + 2) (by omega) (nin _ (by omega))).trans e2
    simp (disch := first | omega | (simp only [newRow_size, Array.size_setIfInBounds, Array.size_push]; done) | (simp only [newRow_size, Array.size_setIfInBounds, Array.size_push]; omega)) [r23_9, eqT, eqF, neT, neF, ltT, ltF, leT, leF, nltT, nltF, nleT, nleF, nneT, nneF, flipX, List.getElem?_cons_zero, List.getElem?_cons_succ, q0, q1, q2]
    refine Ans.next (rSettle_spec (F := F) (by omega) (d3' k3) g w.a w.b) ?_
    rintro v h4 ⟨rfl, k4⟩
    have y4 := k4.1
    have g4 := fun c => k4.get (b := c)
    simp only [List.not_mem_nil, not_false_eq_true, forall_const] at g4
    have ho3 := one_sl r2 (setl x w.a w.b).2.vs.length
    simp only [oneCell] at ho3
    simp (disch := first | omega | (simp only [newRow_size, Array.size_setIfInBounds, Array.size_push]; done) | (simp only [newRow_size, Array.size_setIfInBounds, Array.size_push]; omega)) [r23_10, eqT, eqF, neT, neF, ltT, ltF, leT, leF, nltT, nltF, nleT, nleF, nneT, nneF, flipX, List.getElem?_cons_zero, List.getElem?_cons_succ, RV, g4, q0, q1, q2, ho3]
    refine fin _ r r2 h3 h4 _ am s3 (.inl rfl) k3 (by rw [setl_len]; exact (d3' k3).frame k4) (.inl rfl) k4 ⟨(by first | omega | (simp only [newRow_size, Array.size_setIfInBounds, Array.size_push]; done) | (simp only [newRow_size, Array.size_setIfInBounds, Array.size_push]; omega)), fun c hc hn => ?_⟩
    rw [List.mem_singleton] at hn
    simp (disch := first | omega | (simp only [newRow_size, Array.size_setIfInBounds, Array.size_push]; done) | (simp only [newRow_size, Array.size_setIfInBounds, Array.size_push]; omega)) []
  rw [if_neg c2] at am
  by_cases c3 : w.k = 3
  · rw [if_pos c3] at am
    simp (disch := first | omega | (simp only [newRow_size, Array.size_setIfInBounds, Array.size_push]; done) | (simp only [newRow_size, Array.size_setIfInBounds, Array.size_push]; omega)) [r23_3, r23_7, r23_11, r23_12, eqT, eqF, neT, neF, ltT, ltF, leT, leF, nltT, nltF, nleT, nleF, nneT, nneF, flipX, List.getElem?_cons_zero, List.getElem?_cons_succ, e0, e1, e2, wl, List.take_of_length_le]
    refine Ans.next (Take_spec (F := F) (by omega) sE.p (by omega) w.a w.nk w.nn w.rest wl) ?_
    rintro v h3 ⟨q3, n3, z3, s3, k3'⟩
    have k3 : Kept E h3 (b :: r.toList) := k3'.weak (by simp)
    have y3 := k3.1
    have q0 := (k3.get (b := h.size) (by omega) (nin _ (by omega))).trans e0
    have q1 := (k3.get (b := h.size + 1) (by omega) (nin _ (by omega))).trans e1
    have q2 := (k3.get (b := h.size + 2) (by omega) (nin _ (by omega))).trans e2
    simp (disch := first | omega | (simp only [newRow_size, Array.size_setIfInBounds, Array.size_push]; done) | (simp only [newRow_size, Array.size_setIfInBounds, Array.size_push]; omega)) [r23_13, eqT, eqF, neT, neF, ltT, ltF, leT, leF, nltT, nltF, nleT, nleF, nneT, nneF, flipX, List.getElem?_cons_zero, List.getElem?_cons_succ, q0, q1, q2, wl, List.take_of_length_le]
    refine Ans.next (rTake_spec (F := F) (by omega) (d3' k3) g w.a w.nk w.nn w.rest wl) ?_
    rintro v4 h4 ⟨q4, s4, rfl, n4, z4, k4⟩
    have y4 := k4.1
    have g4 := fun c => k4.get (b := c)
    simp only [List.not_mem_nil, not_false_eq_true, forall_const] at g4
    have ho3 := one_sl r2 (takeM x w.a w.nk w.nn).1.vs.length
    have hsc : sameCell (sl r2 (takeM x w.a w.nk w.nn).1.vs.length) (sl r2 (takeM x w.a w.nk w.nn).1.vs.length) = true := by cases r2 <;> simp [sameCell]
    simp only [oneCell] at ho3
    simp only [sameCell] at hsc
    have n3' : NotesAt (Ev.newRow h4 [.int .i64 (takeM x w.a w.nk w.nn).1.nodes, sl r2 (takeM x w.a w.nk w.nn).1.vs.length, .bool (takeM x w.a w.nk w.nn).1.st] 0 []) q3 (takeM x w.a w.nk w.nn).2 v := by
      cases ho : (takeM x w.a w.nk w.nn).2 with
      | none => rw [ho] at n3; exact n3
      | some y =>
        rw [ho] at n3
        obtain ⟨rfl, e⟩ := n3
        have := lt_of_get e
        exact ⟨rfl, by simp (disch := first | omega | (simp only [newRow_size, Array.size_setIfInBounds, Array.size_push]; done) | (simp only [newRow_size, Array.size_setIfInBounds, Array.size_push]; omega)) [g4, e]⟩
    have n4' : NotesAt (Ev.newRow h4 [.int .i64 (takeM x w.a w.nk w.nn).1.nodes, sl r2 (takeM x w.a w.nk w.nn).1.vs.length, .bool (takeM x w.a w.nk w.nn).1.st] 0 []) q4 (takeM x w.a w.nk w.nn).2 s4 := by
      cases ho : (takeM x w.a w.nk w.nn).2 with
      | none => rw [ho] at n4; exact n4
      | some y =>
        rw [ho] at n4
        obtain ⟨rfl, e⟩ := n4
        have := lt_of_get e
        exact ⟨rfl, by simp (disch := first | omega | (simp only [newRow_size, Array.size_setIfInBounds, Array.size_push]; done) | (simp only [newRow_size, Array.size_setIfInBounds, Array.size_push]; omega)) [e]⟩
    simp (disch := first | omega | (simp only [newRow_size, Array.size_setIfInBounds, Array.size_push]; done) | (simp only [newRow_size, Array.size_setIfInBounds, Array.size_push]; omega)) [d23_14, eqT, eqF, neT, neF, ltT, ltF, leT, leF, nltT, nltF, nleT, nleF, nneT, nneF, flipX, List.getElem?_cons_zero, List.getElem?_cons_succ, RV, g4, q0, q1, q2, ho3]
    refine Ans.nextD (sameNotes_spec (F := F) (by omega) n3' n4') ?_
    rintro u h5 ⟨rfl, k5⟩
    have y5 := k5.1
    have g5 := fun c => k5.get (b := c)
    simp only [List.not_mem_nil, not_false_eq_true, forall_const, newRow_size] at g5 y5
    simp (disch := first | omega | (simp only [newRow_size, Array.size_setIfInBounds, Array.size_push]; done) | (simp only [newRow_size, Array.size_setIfInBounds, Array.size_push]; omega)) [eqT, eqF, neT, neF, ltT, ltF, leT, leF, nltT, nltF, nleT, nleF, nneT, nneF, flipX, List.getElem?_cons_zero, List.getElem?_cons_succ, dk_go, chks_nil, chks_cons, chkA_nil, chkA_cons, chk1_no, chk1_yes, chkV_some, hAt_eq, hOf_some, hOf_none, sameV, sameL, sameCell, g5, g4, q0, q1, q2, ho3, hsc]
    have hvs : (takeM x w.a w.nk w.nn).1.vs = x.vs := by
      unfold takeM
      split
      · rfl
      split
      · exact setl_len _ _ _
      · rfl
    refine fin _ r r2 h3 h4 _ am s3 (.inl rfl) k3 (by rw [hvs]; exact (d3' k3).frame k4) (.inl rfl) k4 ⟨(by first | omega | (simp only [newRow_size, Array.size_setIfInBounds, Array.size_push]; done) | (simp only [newRow_size, Array.size_setIfInBounds, Array.size_push]; omega)), fun c hc hn => ?_⟩
    rw [List.mem_singleton] at hn
    simp (disch := first | omega | (simp only [newRow_size, Array.size_setIfInBounds, Array.size_push]; done) | (simp only [newRow_size, Array.size_setIfInBounds, Array.size_push]; omega)) [g5]
  rw [if_neg c3] at am
  simp (disch := first | omega | (simp only [newRow_size, Array.size_setIfInBounds, Array.size_push]; done) | (simp only [newRow_size, Array.size_setIfInBounds, Array.size_push]; omega)) [r23_3, r23_7, r23_11, r23_15, eqT, eqF, neT, neF, ltT, ltF, leT, leF, nltT, nltF, nleT, nleF, nneT, nneF, flipX, List.getElem?_cons_zero, List.getElem?_cons_succ, e0, e1, e2, ho2]
  refine fin _ r r2 E E _ am sE.p (.inl rfl) (Kept.refl _ _) sE.d (.inl rfl) (Kept.refl _ _) ⟨(by first | omega | (simp only [newRow_size, Array.size_setIfInBounds, Array.size_push]; done) | (simp only [newRow_size, Array.size_setIfInBounds, Array.size_push]; omega)), fun c hc hn => ?_⟩
  rw [List.mem_singleton] at hn
  simp (disch := first | omega | (simp only [newRow_size, Array.size_setIfInBounds, Array.size_push]; done) | (simp only [newRow_size, Array.size_setIfInBounds, Array.size_push]; omega)) []

end Go.Proofs.Ytefbpobeclkbhaa
