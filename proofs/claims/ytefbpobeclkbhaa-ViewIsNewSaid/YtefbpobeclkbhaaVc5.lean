/- did; ViewTells. -/
import Derived.Test.YtefbpobeclkbhaaVc1
set_option linter.unusedSimpArgs false
set_option linter.unusedVariables false
namespace Go.Proofs.Ytefbpobeclkbhaa
open Go.Ev

def didM (x : Sv) (a : Act) : Bool × Bool :=
  if (wholeM x.now a).k = 1 then ((prom x (wholeM x.now a).a (wholeM x.now a).b).1 == 0, false)
  else if (wholeM x.now a).k = 2 then (false, (setl x (wholeM x.now a).a (wholeM x.now a).b).1 == 0)
  else (false, false)

def didPost (h : H) (b : Nat) (r : Option Nat) (x : Sv) (a : Act) (v : Value) (h' : H) : Prop :=
  ∃ r', v = .tuple ⟨[.bool (didM x a).1, .bool (didM x a).2]⟩ ∧ SvAt h' b 0 r' (actM x a) ∧ fresh h r r' ∧ Kept h h' (b :: r.toList)

theorem did_spec {F : Nat} (hF : 10 ≤ F) {h : H} {b : Nat} {r : Option Nat} {x : Sv} (s : SvAt h b 0 r x) (g : Good x) {a : Act} (ok : a.Ok) :
    Ans (cf F 17 [.pointer (some ⟨b, 0, none⟩), a.val] h) (didPost h b r x a) := by
  obtain ⟨F, rfl⟩ : ∃ G, F = G + 1 := ⟨F - 1, by omega⟩
  have hmax := g.len
  rw [cf_step (a := a17) rfl rfl (by simp [a17])]
  simp (disch := first | omega | (simp only [newRow_size, Array.size_setIfInBounds, Array.size_push]; done) | (simp only [newRow_size, Array.size_setIfInBounds, Array.size_push]; omega)) [a17, r17_0, d17_1, eqT, eqF, neT, neF, ltT, ltF, leT, leF, nltT, nltF, nleT, nleF, nneT, nneF, flipX, List.getElem?_cons_zero, List.getElem?_cons_succ, Act.val, Act.cells]
  refine Ans.nextD (Now_spec (F := F) (by omega) (s.frame (row_kept _ _ _ _)) (by omega)) ?_
  rintro v h1 ⟨rfl, k1⟩
  have g1 := fun c => k1.get (b := c)
  have y1 := k1.1
  simp only [List.not_mem_nil, not_false_eq_true, forall_const, newRow_size] at g1 y1
  have oo := ok
  obtain ⟨al, ao, asm⟩ := ok
  simp (disch := first | omega | (simp only [newRow_size, Array.size_setIfInBounds, Array.size_push]; done) | (simp only [newRow_size, Array.size_setIfInBounds, Array.size_push]; omega)) [g1, eqT, eqF, neT, neF, ltT, ltF, leT, leF, nltT, nltF, nleT, nleF, nneT, nneF, flipX, List.getElem?_cons_zero, List.getElem?_cons_succ, al, List.take_of_length_le]
  have hw := whole_spec (F := F) (by omega) h1 x.now oo
  simp only [Act.val, Act.cells] at hw
  refine Ans.nextD hw ?_
  rintro v h2 ⟨rfl, k2⟩
  have g2 := fun c => k2.get (b := c)
  have y2 := k2.1
  simp only [List.not_mem_nil, not_false_eq_true, forall_const] at g2
  obtain ⟨wl, wo, ws⟩ := wholeM_ok x.now oo
  have am : actM x a = if (wholeM x.now a).k = 1 then (prom x (wholeM x.now a).a (wholeM x.now a).b).2
    else if (wholeM x.now a).k = 2 then (setl x (wholeM x.now a).a (wholeM x.now a).b).2
    else if (wholeM x.now a).k = 3 then (takeM x (wholeM x.now a).a (wholeM x.now a).nk (wholeM x.now a).nn).1
    else x := rfl
  have dm : didM x a = if (wholeM x.now a).k = 1 then ((prom x (wholeM x.now a).a (wholeM x.now a).b).1 == 0, false)
    else if (wholeM x.now a).k = 2 then (false, (setl x (wholeM x.now a).a (wholeM x.now a).b).1 == 0)
    else (false, false) := rfl
  generalize wholeM x.now a = w at wl wo am dm ⊢
  simp (disch := first | omega | (simp only [newRow_size, Array.size_setIfInBounds, Array.size_push]; done) | (simp only [newRow_size, Array.size_setIfInBounds, Array.size_push]; omega)) [g1, g2, eqT, eqF, neT, neF, ltT, ltF, leT, leF, nltT, nltF, nleT, nleF, nneT, nneF, flipX, List.getElem?_cons_zero, List.getElem?_cons_succ, dk_go, chks_nil, chks_cons, chkA_nil, chkA_cons, chk1_no, chk1_yes, chkV_some, hAt_eq, hOf_some, hOf_none, sameV, sameL, sameCell, al, wl, wo, asm, List.take_of_length_le, List.drop_eq_nil_of_le, r17_2, Act.val, Act.cells]
  obtain ⟨E, hE⟩ : ∃ E, E = Array.setIfInBounds h2 h.size (.cells (Value.int .i64 w.k :: .int .i64 w.a :: .int .i64 w.b :: .int .i64 w.nk :: .int .i64 w.nn :: w.rest) 0 true []) := ⟨_, rfl⟩
  rw [← hE]
  have e1 : hget E h.size = some (.cells (Value.int .i64 w.k :: .int .i64 w.a :: .int .i64 w.b :: .int .i64 w.nk :: .int .i64 w.nn :: w.rest) 0 true []) := by rw [hE]; simp (disch := first | omega | (simp only [newRow_size, Array.size_setIfInBounds, Array.size_push]; done) | (simp only [newRow_size, Array.size_setIfInBounds, Array.size_push]; omega)) []
  have kE : Kept h E [] := by rw [hE]; exact ⟨(by first | omega | (simp only [newRow_size, Array.size_setIfInBounds, Array.size_push]; done) | (simp only [newRow_size, Array.size_setIfInBounds, Array.size_push]; omega)), fun c hc _ => by simp (disch := first | omega | (simp only [newRow_size, Array.size_setIfInBounds, Array.size_push]; done) | (simp only [newRow_size, Array.size_setIfInBounds, Array.size_push]; omega)) [g1, g2]⟩
  have sE := s.frame kE
  have yE := kE.1
  clear hE k1 g1 k2 g2
  by_cases c1 : w.k = 1
  · rw [if_pos c1] at am dm
    simp (disch := first | omega | (simp only [newRow_size, Array.size_setIfInBounds, Array.size_push]; done) | (simp only [newRow_size, Array.size_setIfInBounds, Array.size_push]; omega)) [r17_3, r17_4, eqT, eqF, neT, neF, ltT, ltF, leT, leF, nltT, nltF, nleT, nleF, nneT, nneF, flipX, List.getElem?_cons_zero, List.getElem?_cons_succ, e1]
    refine Ans.next (Promote_spec (F := F) (by omega) sE g _ _) ?_
    rintro v h3 ⟨rfl, ⟨r', s3, f3⟩, k3⟩
    simp (disch := first | omega | (simp only [newRow_size, Array.size_setIfInBounds, Array.size_push]; done) | (simp only [newRow_size, Array.size_setIfInBounds, Array.size_push]; omega)) [r17_5]
    refine Ans.of ⟨r', by rw [dm], by rw [am]; exact s3, ?_, Kept.trans (kE.weak (by simp)) k3⟩
    rcases f3 with e | ⟨q, e, hq⟩
    · exact .inl e
    · exact .inr ⟨q, e, by omega⟩
  rw [if_neg c1] at am dm
  by_cases c2 : w.k = 2
  · rw [if_pos c2] at am dm
    simp (disch := first | omega | (simp only [newRow_size, Array.size_setIfInBounds, Array.size_push]; done) | (simp only [newRow_size, Array.size_setIfInBounds, Array.size_push]; omega)) [r17_3, r17_6, r17_7, eqT, eqF, neT, neF, ltT, ltF, leT, leF, nltT, nltF, nleT, nleF, nneT, nneF, flipX, List.getElem?_cons_zero, List.getElem?_cons_succ, e1]
    refine Ans.next (Settle_spec (F := F) (by omega) sE (by omega) w.a w.b) ?_
    rintro v h3 ⟨rfl, s3, k3⟩
    simp (disch := first | omega | (simp only [newRow_size, Array.size_setIfInBounds, Array.size_push]; done) | (simp only [newRow_size, Array.size_setIfInBounds, Array.size_push]; omega)) [r17_8]
    exact Ans.of ⟨r, by rw [dm], by rw [am]; exact s3, .inl rfl, Kept.trans (kE.weak (by simp)) (k3.weak (by simp))⟩
  rw [if_neg c2] at am dm
  by_cases c3 : w.k = 3
  · rw [if_pos c3] at am
    simp (disch := first | omega | (simp only [newRow_size, Array.size_setIfInBounds, Array.size_push]; done) | (simp only [newRow_size, Array.size_setIfInBounds, Array.size_push]; omega)) [r17_3, r17_6, r17_9, r17_10, eqT, eqF, neT, neF, ltT, ltF, leT, leF, nltT, nltF, nleT, nleF, nneT, nneF, flipX, List.getElem?_cons_zero, List.getElem?_cons_succ, e1, wl, List.take_of_length_le]
    refine Ans.next (Take_spec (F := F) (by omega) sE (by omega) w.a w.nk w.nn w.rest wl) ?_
    rintro v h3 ⟨q3, n3, z3, s3, k3⟩
    simp (disch := first | omega | (simp only [newRow_size, Array.size_setIfInBounds, Array.size_push]; done) | (simp only [newRow_size, Array.size_setIfInBounds, Array.size_push]; omega)) [r17_11]
    exact Ans.of ⟨r, by rw [dm], by rw [am]; exact s3, .inl rfl, Kept.trans (kE.weak (by simp)) (k3.weak (by simp))⟩
  rw [if_neg c3] at am
  simp (disch := first | omega | (simp only [newRow_size, Array.size_setIfInBounds, Array.size_push]; done) | (simp only [newRow_size, Array.size_setIfInBounds, Array.size_push]; omega)) [r17_3, r17_6, r17_9, r17_11, eqT, eqF, neT, neF, ltT, ltF, leT, leF, nltT, nltF, nleT, nleF, nneT, nneF, flipX, List.getElem?_cons_zero, List.getElem?_cons_succ, e1]
  exact Ans.of ⟨r, by rw [dm], by rw [am]; exact sE, .inl rfl, kE.weak (by simp)⟩

/-- A service that a law holds, and a script. -/
structure One (N : Nat) (h : H) (b : Nat) (r : Option Nat) (x : Sv) : Prop where
  s : SvAt h b 0 r x
  g : Good x
  nb : N ≤ b
  nr : ∀ q, r = some q → N ≤ q
  ne : x.vs ≠ []

theorem One.frame {N : Nat} {h h' : H} {b : Nat} {r : Option Nat} {x : Sv} (o : One N h b r x) (k : Kept h h' []) : One N h' b r x := ⟨o.s.frame k, o.g, o.nb, o.nr, o.ne⟩

theorem One.nin {N : Nat} {h : H} {b : Nat} {r : Option Nat} {x : Sv} (o : One N h b r x) {c : Nat} (hc : c < N) : c ∉ b :: r.toList := by
  intro hm
  simp only [List.mem_cons, Option.mem_toList, Option.mem_def] at hm
  have := o.nb
  rcases hm with e | e
  · omega
  · have := o.nr c e; omega

theorem One.ltr {N : Nat} {h : H} {b : Nat} {r : Option Nat} {x : Sv} (o : One N h b r x) : ∀ q, r = some q → q < h.size := by
  intro q e
  have := o.s.vs
  subst e
  exact this.lt

theorem actM_vs (x : Sv) (a : Act) (hne : x.vs ≠ []) : (actM x a).vs ≠ [] := by
  have hp : ∀ p q, (prom x p q).2.vs ≠ [] := by
    intro p q
    unfold prom
    split
    · exact hne
    split
    · exact hne
    split
    · exact hne
    split
    · exact hne
    · simp
  have hs : ∀ p q, (setl x p q).2.vs ≠ [] := by
    intro p q
    rw [setl_len]
    exact hne
  unfold actM
  split
  · exact hp _ _
  split
  · exact hs _ _
  split
  · unfold takeM
    split
    · exact hne
    split
    · exact hs _ _
    · exact hne
  · exact hne

theorem One.step {N : Nat} {h h' : H} {b : Nat} {r : Option Nat} {x : Sv} {a : Act} {v : Value} (o : One N h b r x) (p : didPost h b r x a v h') :
    ∃ r', v = .tuple ⟨[.bool (didM x a).1, .bool (didM x a).2]⟩ ∧ One N h' b r' (actM x a) ∧ Kept h h' (b :: r.toList) := by
  obtain ⟨r', e, s', f, k⟩ := p
  refine ⟨r', e, ⟨s', o.g.actM a, o.nb, ?_, actM_vs x a o.ne⟩, k⟩
  intro q hq
  rcases f with e' | ⟨q', e', h'⟩
  · exact o.nr q (by rw [← e', hq])
  · rw [hq] at e'; cases e'
    have := lt_of_get o.s.at'
    have := o.nb
    omega

theorem One.first {h1 h2 : H} {N n : Nat} {b r : Nat} {z : Int} (s : SvAt h2 b 0 (some r) (first z)) (h1z : 1 ≤ z) (h2z : z ≤ 5) (hb : N ≤ b) (hr : N ≤ r) : One N h2 b (some r) (Proofs.Ytefbpobeclkbhaa.first z) :=
  ⟨s, Good.first h1z h2z, hb, fun q e => by cases e; exact hr, by simp [Proofs.Ytefbpobeclkbhaa.first]⟩

theorem ScAt.stepO {N : Nat} {h h' : H} {b : Nat} {r : Option Nat} {x : Sv} {v : Value} {acts : List Act} (o : One N h b r x) (sc : ScAt N h v acts) (k : Kept h h' (b :: r.toList)) : ScAt N h' v acts :=
  sc.kept k fun c hc => o.nin hc

set_option maxHeartbeats 1000000 in
theorem tells_spec {F : Nat} (hF : 1010 ≤ F) {h : H} {v : Value} {acts : List Act} (sc : ScAt h.size h v acts) (n fr nk nn : Int) (rest : List Value) (hrl : rest.length = 19) (hro : rest.all oneCell = true) :
    Ans (cf F 5 [.int .i64 n, v, .int .i64 fr, .agg ⟨.int .i64 nk :: .int .i64 nn :: rest⟩] h) fun v h' => v = .bool true := by
  obtain ⟨F, rfl⟩ : ∃ G, F = G + 1 := ⟨F - 1, by omega⟩
  rw [cf_step (a := a5) rfl rfl (by simp [a5])]
  simp (disch := first | omega | (simp only [newRow_size, Array.size_setIfInBounds, Array.size_push]; done) | (simp only [newRow_size, Array.size_setIfInBounds, Array.size_push]; omega)) [a5, r5_0, r5_1]
  have e0 : hget (Ev.newRow h (Value.int .i64 nk :: .int .i64 nn :: rest) 0 []) h.size = some (.cells (Value.int .i64 nk :: .int .i64 nn :: rest) 0 true []) := by simp
  have sc0 := sc.kept (row_kept h (Value.int .i64 nk :: .int .i64 nn :: rest) 0 []) (by simp)
  have y0 : (Ev.newRow h (Value.int .i64 nk :: .int .i64 nn :: rest) 0 []).size = h.size + 1 := by simp
  generalize Ev.newRow h (Value.int .i64 nk :: .int .i64 nn :: rest) 0 [] = h0 at e0 sc0 y0 ⊢
  refine Ans.next (begins_spec (F := F) (by omega) h0) ?_
  rintro v1 h1 ⟨rfl, k1⟩
  have y1 := k1.1
  have e1 := (k1.get (lt_of_get e0) (by simp)).trans e0
  simp (disch := first | omega | (simp only [newRow_size, Array.size_setIfInBounds, Array.size_push]; done) | (simp only [newRow_size, Array.size_setIfInBounds, Array.size_push]; omega)) [r5_2, r5_4]
  by_cases hn : n < 1 ∨ 5 < n
  · rw [New_bad (by omega) h1 n hn]
    simp (disch := first | omega | (simp only [newRow_size, Array.size_setIfInBounds, Array.size_push]; done) | (simp only [newRow_size, Array.size_setIfInBounds, Array.size_push]; omega)) [r5_5, r5_6, eqT, eqF, neT, neF, ltT, ltF, leT, leF, nltT, nltF, nleT, nleF, nneT, nneF, flipX, List.getElem?_cons_zero, List.getElem?_cons_succ]
    exact Ans.of rfl
  refine Ans.next (New_spec (F := F) (by omega) h1 n (by omega) (by omega)) ?_
  rintro v2 h2 ⟨b, r, rfl, s2, zb, zr, k2⟩
  have y2 := k2.1
  have e2 := (k2.get (lt_of_get e1) (by simp)).trans e1
  simp (disch := first | omega | (simp only [newRow_size, Array.size_setIfInBounds, Array.size_push]; done) | (simp only [newRow_size, Array.size_setIfInBounds, Array.size_push]; omega)) [r5_5, r5_7, eqT, eqF, neT, neF, ltT, ltF, leT, leF, nltT, nltF, nleT, nleF, nneT, nneF, flipX, List.getElem?_cons_zero, List.getElem?_cons_succ]
  have o2 : One (h.size + 1) h2 b (some r) (first n) := One.first (h1 := h1) (n := 0) s2 (by omega) (by omega) (by omega) (by omega)
  have sc2 := (sc0.kept k1 (by simp)).kept k2 (by simp)
  generalize some r = ro at o2
  generalize first n = x at o2
  clear s2 k2 e1 k1 e0 sc0 sc
  refine loop_rule (fun m s g => ∃ (i : Nat) (x : Sv) (r : Option Nat), m = 1000 - i ∧ i ≤ 160 ∧ s = [(1, v), (2, .int .i64 fr), (7, .pointer (some ⟨h.size, 0, none⟩)), (10, .pointer (some ⟨b, 0, none⟩)), (12, .int .i64 i)] ∧ One (h.size + 1) g b r x ∧ ScAt h.size g v acts ∧ hget g h.size = some (.cells (Value.int .i64 nk :: .int .i64 nn :: rest) 0 true [])) ?_ _ 1000 _ _ (by omega) ⟨0, _, _, rfl, by omega, rfl, o2, sc2, e2⟩
  clear o2 sc2 e2
  rintro m s g again ⟨i, x, r, rfl, hi, rfl, o, sc, eN⟩ ih
  have hl := sc.len
  have hmax := o.g.len
  by_cases hlt : i < acts.length ∧ i < 160
  · obtain ⟨hlt1, hlt2⟩ := hlt
    have sc0 := sc
    rcases sc with ⟨_, rfl⟩ | ⟨sb, so, cc, cs, es, lv, an, rfl, hN, hg, hi'⟩
    · simp at hlt1
    obtain ⟨a, ha⟩ : ∃ a, acts[i]? = some a := ⟨_, List.getElem?_eq_getElem hlt1⟩
    obtain ⟨q1, q2, ok⟩ := hi' i a ha
    have hw : IntKind.i64.wrap ((i : Int) + 1) = ((i + 1 : Nat) : Int) := by rw [IntKind.wrap_i64]; omega
    simp (disch := first | omega | (simp only [newRow_size, Array.size_setIfInBounds, Array.size_push]; done) | (simp only [newRow_size, Array.size_setIfInBounds, Array.size_push]; omega)) [l5_11, r5_8, r5_9, hg, q1, eqT, eqF, neT, neF, ltT, ltF, leT, leF, nltT, nltF, nleT, nleF, nneT, nneF, flipX, List.getElem?_cons_zero, List.getElem?_cons_succ]
    have hp := did_spec (F := F) (by omega) o.s o.g ok
    simp only [Act.val] at hp
    refine Ans.next hp ?_
    intro v3 h3 p3
    obtain ⟨r', rfl, o3, k3⟩ := o.step p3
    simp (disch := first | omega | (simp only [newRow_size, Array.size_setIfInBounds, Array.size_push]; done) | (simp only [newRow_size, Array.size_setIfInBounds, Array.size_push]; omega)) [r5_10, hw, eqT, eqF, neT, neF, ltT, ltF, leT, leF, nltT, nltF, nleT, nleF, nneT, nneF, flipX, List.getElem?_cons_zero, List.getElem?_cons_succ]
    refine ih (1000 - (i + 1)) _ _ (by omega) ⟨i + 1, _, r', rfl, by omega, rfl, o3, ?_, (k3.get (lt_of_get eN) (o.nin (by omega))).trans eN⟩
    exact sc0.kept k3 fun c hc => o.nin (by omega)
  · have hend : ∀ S, Ans (evR (cf F) r5_12 [(1, v), (2, .int .i64 fr), (7, .pointer (some ⟨h.size, 0, none⟩)), (10, .pointer (some ⟨b, 0, none⟩)), (12, .int .i64 i), (34, S)] g
        (evC F (cf F) ((ACode.region r5_13 [2, 7, 10, 13, 14]).seq ((ACode.region r5_14 [2, 7, 10, 13, 14, 15]).seq (((ACode.region r5_15 [2, 7, 10, 13, 14, 15, 53]).seq (ACode.cond (.tmp 53) ((ACode.regionD d5_16 [(13, [12])] [8]).seq ACode.ret) ACode.skip)).seq ((ACode.region r5_17 [10, 13, 14, 15, 16]).seq ((ACode.regionD d5_18 [(6, [5])] [8]).seq ACode.ret))))) (endK (cfX XD) [ARes.tmp 8]) noK (endK (cfX XD) [ARes.tmp 8])) [2, 7, 10, 13] []) fun v h' => v = .bool true := by
      intro S
      have hnow := o.g.now o.ne
      have hl0 : 0 < x.vs.length := List.length_pos_iff.2 o.ne
      simp (disch := first | omega | (simp only [newRow_size, Array.size_setIfInBounds, Array.size_push]; done) | (simp only [newRow_size, Array.size_setIfInBounds, Array.size_push]; omega)) [r5_12]
      refine Ans.next (Now_spec (F := F) (by omega) o.s (by omega)) ?_
      rintro v3 h3 ⟨rfl, k3⟩
      have y3 := k3.1
      have eN3 := (k3.get (lt_of_get eN) (by simp)).trans eN
      have o3 := (o.frame k3).frame (row_kept h3 [.int .i64 x.now.num, .int .i64 x.now.pri, .int .i64 x.now.bak] 0 [])
      have ev3 : hget (Ev.newRow h3 [.int .i64 x.now.num, .int .i64 x.now.pri, .int .i64 x.now.bak] 0 []) h3.size = some (.cells [.int .i64 x.now.num, .int .i64 x.now.pri, .int .i64 x.now.bak] 0 true []) := by simp
      have eN4 := ((row_kept h3 [.int .i64 x.now.num, .int .i64 x.now.pri, .int .i64 x.now.bak] 0 []).get (lt_of_get eN3) (by simp)).trans eN3
      have hbs := lt_of_get (o.frame k3).s.at'
      have hrs := (o.frame k3).ltr
      simp (disch := first | omega | (simp only [newRow_size, Array.size_setIfInBounds, Array.size_push]; done) | (simp only [newRow_size, Array.size_setIfInBounds, Array.size_push]; omega)) [Vw.val, Vw.cells, r5_13]
      generalize Ev.newRow h3 [.int .i64 x.now.num, .int .i64 x.now.pri, .int .i64 x.now.bak] 0 [] = h4 at o3 ev3 eN4 ⊢
      refine Ans.next (Settled_spec (F := F) (by omega) o3.s) ?_
      rintro v5 h5 ⟨rfl, k5⟩
      have o5 := o3.frame k5
      have ev5 := (k5.get (lt_of_get ev3) (by simp)).trans ev3
      have eN5 := (k5.get (lt_of_get eN4) (by simp)).trans eN4
      simp (disch := first | omega | (simp only [newRow_size, Array.size_setIfInBounds, Array.size_push]; done) | (simp only [newRow_size, Array.size_setIfInBounds, Array.size_push]; omega)) [r5_14, eN5, hrl, List.take_of_length_le, eqT, eqF, neT, neF, ltT, ltF, leT, leF, nltT, nltF, nleT, nleF, nneT, nneF, flipX, List.getElem?_cons_zero, List.getElem?_cons_succ]
      refine Ans.next (Take_spec (F := F) (by omega) o5.s (by omega) fr nk nn rest hrl) ?_
      rintro v6 h6 ⟨q6, n6, z6, s6, k6⟩
      have ev6 := (k6.get (lt_of_get ev5) (by simp; omega)).trans ev5
      have eN6 := (k6.get (lt_of_get eN5) (by simp; have := o.nb; omega)).trans eN5
      simp (disch := first | omega | (simp only [newRow_size, Array.size_setIfInBounds, Array.size_push]; done) | (simp only [newRow_size, Array.size_setIfInBounds, Array.size_push]; omega)) [r5_15, eN6, eqT, eqF, neT, neF, ltT, ltF, leT, leF, nltT, nltF, nleT, nleF, nneT, nneF, flipX, List.getElem?_cons_zero, List.getElem?_cons_succ]
      have hnz : ¬ x.now.num = 0 := by omega
      by_cases c1 : nk = 21
      · have hm : takeM x fr nk nn = (x, some x.now) := by simp [takeM, c1, hnz]
        rw [hm] at n6 s6
        obtain ⟨rfl, e6⟩ := n6
        have hb := bare_spec (F := F) (by omega) h6 22 x.now
        simp only [noteC, Vw.val, Vw.cells] at hb e6
        simp (disch := first | omega | (simp only [newRow_size, Array.size_setIfInBounds, Array.size_push]; done) | (simp only [newRow_size, Array.size_setIfInBounds, Array.size_push]; omega)) [d5_16, e6, ev6, eqT, eqF, neT, neF, ltT, ltF, leT, leF, nltT, nltF, nleT, nleF, nneT, nneF, flipX, List.getElem?_cons_zero, List.getElem?_cons_succ]
        refine Ans.nextD hb ?_
        rintro v7 h7 ⟨rfl, k7⟩
        have ev7 := (k7.get (lt_of_get ev6) (by simp)).trans ev6
        have s7 := s6.frame k7
        simp (disch := first | omega | (simp only [newRow_size, Array.size_setIfInBounds, Array.size_push]; done) | (simp only [newRow_size, Array.size_setIfInBounds, Array.size_push]; omega)) [eqT, eqF, neT, neF, ltT, ltF, leT, leF, nltT, nltF, nleT, nleF, nneT, nneF, flipX, List.getElem?_cons_zero, List.getElem?_cons_succ]
        refine Ans.nextD (Now_spec (F := F) (x := x) (by omega) s7 (by omega)) ?_
        rintro v8 h8 ⟨rfl, k8⟩
        have ev8 := (k8.get (lt_of_get ev7) (by simp)).trans ev7
        have s8 := s7.frame k8
        simp (disch := first | omega | (simp only [newRow_size, Array.size_setIfInBounds, Array.size_push]; done) | (simp only [newRow_size, Array.size_setIfInBounds, Array.size_push]; omega)) [ev8, Vw.val, Vw.cells, eqT, eqF, neT, neF, ltT, ltF, leT, leF, nltT, nltF, nleT, nleF, nneT, nneF, flipX, List.getElem?_cons_zero, List.getElem?_cons_succ]
        refine Ans.nextD (Settled_spec (F := F) (by omega) s8) ?_
        rintro v9 h9 ⟨rfl, k9⟩
        simp (disch := first | omega | (simp only [newRow_size, Array.size_setIfInBounds, Array.size_push]; done) | (simp only [newRow_size, Array.size_setIfInBounds, Array.size_push]; omega)) [eqT, eqF, neT, neF, ltT, ltF, leT, leF, nltT, nltF, nleT, nleF, nneT, nneF, flipX, List.getElem?_cons_zero, List.getElem?_cons_succ, dk_go, chks_nil, chks_cons, chkA_nil, chkA_cons, chk1_no, chk1_yes, chkV_some, hAt_eq, hOf_some, hOf_none, sameV, sameL, sameCell, ev7, ev8]
        exact Ans.of rfl
      · have hm : takeM x fr nk nn = (if nk = 23 then (setl x nn fr).2 else x, none) := by
          unfold takeM
          rw [if_neg c1]
          split <;> rfl
        rw [hm] at n6 s6
        have e6 : v6 = .slice none 0 0 := n6
        subst e6
        have hs : ∀ (x' : Sv), x'.now = x.now → x'.vs.length ≤ 1000 → SvAt h6 b 0 r x' → ∀ (c : Bool), x'.st = (x.st || c) → Ans (evC F (cf F) (.regionD d5_18 [(6, [5])] [8]) (evC F (cf F) ACode.ret (endK (cfX XD) [ARes.tmp 8]) noK (endK (cfX XD) [ARes.tmp 8])) noK (endK (cfX XD) [ARes.tmp 8])
            [(10, .pointer (some ⟨b, 0, none⟩)), (13, .pointer (some ⟨h3.size, 0, none⟩)), (14, .bool x.st), (15, .slice none 0 0), (16, .bool c)] h6 []) fun v h' => v = .bool true := by
          intro x' hx hx2 s6 c hc
          simp (disch := first | omega | (simp only [newRow_size, Array.size_setIfInBounds, Array.size_push]; done) | (simp only [newRow_size, Array.size_setIfInBounds, Array.size_push]; omega)) [d5_18, eqT, eqF, neT, neF, ltT, ltF, leT, leF, nltT, nltF, nleT, nleF, nneT, nneF, flipX, List.getElem?_cons_zero, List.getElem?_cons_succ]
          refine Ans.nextD (Now_spec (F := F) (by omega) s6 hx2) ?_
          rw [hx]
          rintro v8 h8 ⟨rfl, k8⟩
          have ev8 := (k8.get (lt_of_get ev6) (by simp)).trans ev6
          have s8 := s6.frame k8
          simp (disch := first | omega | (simp only [newRow_size, Array.size_setIfInBounds, Array.size_push]; done) | (simp only [newRow_size, Array.size_setIfInBounds, Array.size_push]; omega)) [ev8, Vw.val, Vw.cells, eqT, eqF, neT, neF, ltT, ltF, leT, leF, nltT, nltF, nleT, nleF, nneT, nneF, flipX, List.getElem?_cons_zero, List.getElem?_cons_succ]
          refine Ans.nextD (Settled_spec (F := F) (by omega) s8) ?_
          rw [hc]
          rintro v9 h9 ⟨rfl, k9⟩
          cases x.st <;> cases c <;> simp (disch := first | omega | (simp only [newRow_size, Array.size_setIfInBounds, Array.size_push]; done) | (simp only [newRow_size, Array.size_setIfInBounds, Array.size_push]; omega)) [eqT, eqF, neT, neF, ltT, ltF, leT, leF, nltT, nltF, nleT, nleF, nneT, nneF, flipX, List.getElem?_cons_zero, List.getElem?_cons_succ, dk_go, chks_nil, chks_cons, chkA_nil, chkA_cons, chk1_no, chk1_yes, chkV_some, hAt_eq, hOf_some, hOf_none, sameV, sameL, sameCell, ev6, ev8] <;> exact Ans.of rfl
        by_cases c2 : nk = 23
        · rw [if_pos c2] at s6
          by_cases c3 : fr = x.now.pri
          · by_cases c4 : nn = x.now.num
            · have hst : setl x nn fr = (0, ⟨x.nodes, x.vs, true⟩) := by unfold setl; rw [if_neg (by omega)]
              rw [hst] at s6
              have := hs ⟨x.nodes, x.vs, true⟩ rfl (by simp; omega) s6 true (by simp)
              simp (disch := first | omega | (simp only [newRow_size, Array.size_setIfInBounds, Array.size_push]; done) | (simp only [newRow_size, Array.size_setIfInBounds, Array.size_push]; omega)) [r5_17, eN6, ev6, eqT, eqF, neT, neF, ltT, ltF, leT, leF, nltT, nltF, nleT, nleF, nneT, nneF, flipX, List.getElem?_cons_zero, List.getElem?_cons_succ, -evC_regionD]
              exact this
            · have hst : setl x nn fr = (120, x) := by unfold setl; rw [if_pos (by omega)]
              rw [hst] at s6
              have := hs x rfl (by omega) s6 false (by simp)
              simp (disch := first | omega | (simp only [newRow_size, Array.size_setIfInBounds, Array.size_push]; done) | (simp only [newRow_size, Array.size_setIfInBounds, Array.size_push]; omega)) [r5_17, eN6, ev6, eqT, eqF, neT, neF, ltT, ltF, leT, leF, nltT, nltF, nleT, nleF, nneT, nneF, flipX, List.getElem?_cons_zero, List.getElem?_cons_succ, -evC_regionD]
              exact this
          · have hst : setl x nn fr = (120, x) := by unfold setl; rw [if_pos (by omega)]
            rw [hst] at s6
            have := hs x rfl (by omega) s6 false (by simp)
            simp (disch := first | omega | (simp only [newRow_size, Array.size_setIfInBounds, Array.size_push]; done) | (simp only [newRow_size, Array.size_setIfInBounds, Array.size_push]; omega)) [r5_17, eN6, ev6, eqT, eqF, neT, neF, ltT, ltF, leT, leF, nltT, nltF, nleT, nleF, nneT, nneF, flipX, List.getElem?_cons_zero, List.getElem?_cons_succ, -evC_regionD]
            exact this
        · rw [if_neg c2] at s6
          have := hs x rfl (by omega) s6 false (by simp)
          simp (disch := first | omega | (simp only [newRow_size, Array.size_setIfInBounds, Array.size_push]; done) | (simp only [newRow_size, Array.size_setIfInBounds, Array.size_push]; omega)) [r5_17, eN6, ev6, eqT, eqF, neT, neF, ltT, ltF, leT, leF, nltT, nltF, nleT, nleF, nneT, nneF, flipX, List.getElem?_cons_zero, List.getElem?_cons_succ, -evC_regionD]
          exact this
    by_cases hlt1 : i < acts.length
    · have : ¬ i < 160 := fun e => hlt ⟨hlt1, e⟩
      simp (disch := first | omega | (simp only [newRow_size, Array.size_setIfInBounds, Array.size_push]; done) | (simp only [newRow_size, Array.size_setIfInBounds, Array.size_push]; omega)) [l5_11, r5_8, hl, eqT, eqF, neT, neF, ltT, ltF, leT, leF, nltT, nltF, nleT, nleF, nneT, nneF, flipX, List.getElem?_cons_zero, List.getElem?_cons_succ]
      exact hend _
    · simp (disch := first | omega | (simp only [newRow_size, Array.size_setIfInBounds, Array.size_push]; done) | (simp only [newRow_size, Array.size_setIfInBounds, Array.size_push]; omega)) [l5_11, r5_8, hl, eqT, eqF, neT, neF, ltT, ltF, leT, leF, nltT, nltF, nleT, nleF, nneT, nneF, flipX, List.getElem?_cons_zero, List.getElem?_cons_succ]
      exact hend _

end Go.Proofs.Ytefbpobeclkbhaa
