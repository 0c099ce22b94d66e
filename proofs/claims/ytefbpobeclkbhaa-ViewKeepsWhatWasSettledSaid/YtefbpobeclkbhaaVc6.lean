/- ViewChains. -/
import Derived.Test.YtefbpobeclkbhaaVc5
set_option linter.unusedSimpArgs false
set_option linter.unusedVariables false
namespace Go.Proofs.Ytefbpobeclkbhaa
open Go.Ev

theorem set_same {h : H} {b : Nat} {x : Blk} (hb : hget h b = some x) : Array.setIfInBounds h b x = h := by
  have hb' : h[b]? = some x := hb
  obtain ⟨h1, h2⟩ := Array.getElem?_eq_some_iff.1 hb'
  apply Array.ext
  · simp
  · intro i h3 h4
    rw [Array.getElem_setIfInBounds]
    by_cases e : b = i
    · subst e; simp [h2]
    · rw [if_neg e]

theorem Settled_eq {F : Nat} (hF : 2 ≤ F) {h : H} {b : Nat} {r : Option Nat} {x : Sv} (s : SvAt h b 0 r x) :
    cf F 18 [.pointer (some ⟨b, 0, none⟩)] h = some (.bool x.st, h) := by
  obtain ⟨F, rfl⟩ : ∃ G, F = G + 1 := ⟨F - 1, by omega⟩
  have hb := s.at'
  have hbs := lt_of_get hb
  rw [cf_step (a := a18) rfl rfl (by simp [a18])]
  simp only [scells] at hb
  simp [a18, r18_0, r18_1, r18_2, r18_3, r18_4, r18_5, hb, hbs, lock_eq (F := F) (by omega), flipX]
  exact set_same hb

theorem prom_code (x : Sv) (p q : Int) : ((prom x p q).1 = 0 ∧ x.st = true ∧ (prom x p q).2.st = false ∧ (prom x p q).2.vs.length = x.vs.length + 1) ∨ ((prom x p q).1 ≠ 0 ∧ (prom x p q).2 = x) := by
  unfold prom
  split
  · exact .inr ⟨by simp, rfl⟩
  rename_i h0
  split
  · exact .inr ⟨by simp, rfl⟩
  split
  · exact .inr ⟨by simp, rfl⟩
  split
  · exact .inr ⟨by simp, rfl⟩
  · exact .inl ⟨rfl, by simpa using h0, rfl, by simp⟩

theorem setl_code (x : Sv) (p q : Int) : ((setl x p q).1 = 0 ∧ (setl x p q).2.st = true) ∨ ((setl x p q).1 ≠ 0 ∧ (setl x p q).2 = x) := by
  unfold setl
  split
  · exact .inr ⟨by simp, rfl⟩
  · exact .inl ⟨rfl, rfl⟩

theorem did_facts (x : Sv) (a : Act) : ((didM x a).1 = true ∧ (didM x a).2 = false ∧ x.st = true ∧ (actM x a).st = false ∧ (actM x a).vs.length = x.vs.length + 1) ∨
    ((didM x a).1 = false ∧ (actM x a).vs = x.vs ∧ ((didM x a).2 = true → (actM x a).st = true) ∧ (x.st = true → (actM x a).st = true)) := by
  unfold didM actM
  split
  · rcases prom_code x (wholeM x.now a).a (wholeM x.now a).b with ⟨h1, h2, h3, h4⟩ | ⟨h1, h2⟩
    · exact .inl ⟨by simp [h1], rfl, h2, h3, h4⟩
    · exact .inr ⟨by simp [h1], by rw [h2], by simp, by rw [h2]; exact id⟩
  split
  · refine .inr ⟨rfl, setl_len _ _ _, ?_, ?_⟩
    · intro e
      rcases setl_code x (wholeM x.now a).a (wholeM x.now a).b with ⟨h1, h2⟩ | ⟨h1, h2⟩
      · exact h2
      · simp [h1] at e
    · intro e
      rcases setl_code x (wholeM x.now a).a (wholeM x.now a).b with ⟨h1, h2⟩ | ⟨h1, h2⟩
      · exact h2
      · rw [h2]; exact e
  split
  · have ht : ∀ fr k n, (takeM x fr k n).1.vs = x.vs ∧ (x.st = true → (takeM x fr k n).1.st = true) := by
      intro fr k n
      unfold takeM
      split
      · exact ⟨rfl, id⟩
      split
      · refine ⟨setl_len _ _ _, fun e => ?_⟩
        rcases setl_code x n fr with ⟨h1, h2⟩ | ⟨h1, h2⟩
        · exact h2
        · show (setl x n fr).2.st = true
          rw [h2]; exact e
      · exact ⟨rfl, id⟩
    exact .inr ⟨rfl, (ht _ _ _).1, by simp, (ht _ _ _).2⟩
  · exact .inr ⟨rfl, rfl, by simp, id⟩

theorem vcs_pair (vs : List Vw) (i : Nat) (v : Vw) (h : vs[i]? = some v) : ((vcs vs).drop (i * 3 + 1)).take 1 = [.int .i64 v.pri] ∧ ((vcs vs).drop (i * 3 + 2)).take 1 = [.int .i64 v.bak] := by
  have h3 := vcs_at vs i v h
  have hl := vcs_length vs
  have hi := (List.getElem?_eq_some_iff.1 h).1
  have e : (vcs vs).drop (i * 3) = v.cells ++ (vcs vs).drop (i * 3 + 3) := by
    rw [← h3, ← List.drop_drop, List.take_append_drop]
  constructor
  · rw [← List.drop_drop, e]; rfl
  · rw [← List.drop_drop, e]; rfl

set_option maxHeartbeats 2000000 in
theorem chains_spec {F : Nat} (hF : 1010 ≤ F) {h : H} {v : Value} {acts : List Act} (sc : ScAt h.size h v acts) (n : Int) :
    Ans (cf F 9 [.int .i64 n, v] h) fun v h' => v = .bool true := by
  obtain ⟨F, rfl⟩ : ∃ G, F = G + 1 := ⟨F - 1, by omega⟩
  rw [cf_step (a := a9) rfl rfl (by simp [a9])]
  simp (disch := first | omega | (simp only [newRow_size, Array.size_setIfInBounds, Array.size_push]; done) | (simp only [newRow_size, Array.size_setIfInBounds, Array.size_push]; omega)) [a9, r9_0, r9_1]
  refine Ans.next (begins_spec (F := F) (by omega) h) ?_
  rintro v1 h1 ⟨rfl, k1⟩
  have y1 := k1.1
  simp (disch := first | omega | (simp only [newRow_size, Array.size_setIfInBounds, Array.size_push]; done) | (simp only [newRow_size, Array.size_setIfInBounds, Array.size_push]; omega)) [r9_2, r9_4]
  by_cases hn : n < 1 ∨ 5 < n
  · rw [New_bad (by omega) h1 n hn]
    by_cases hn1 : n < 1
    · simp (disch := first | omega | (simp only [newRow_size, Array.size_setIfInBounds, Array.size_push]; done) | (simp only [newRow_size, Array.size_setIfInBounds, Array.size_push]; omega)) [r9_5, r9_6, eqT, eqF, neT, neF, ltT, ltF, leT, leF, nltT, nltF, nleT, nleF, nneT, nneF, flipX, List.getElem?_cons_zero, List.getElem?_cons_succ]
      exact Ans.of rfl
    · simp (disch := first | omega | (simp only [newRow_size, Array.size_setIfInBounds, Array.size_push]; done) | (simp only [newRow_size, Array.size_setIfInBounds, Array.size_push]; omega)) [r9_5, r9_6, eqT, eqF, neT, neF, ltT, ltF, leT, leF, nltT, nltF, nleT, nleF, nneT, nneF, flipX, List.getElem?_cons_zero, List.getElem?_cons_succ]
      exact Ans.of rfl
  refine Ans.next (New_spec (F := F) (by omega) h1 n (by omega) (by omega)) ?_
  rintro v2 h2 ⟨b, r, rfl, s2, zb, zr, k2⟩
  have y2 := k2.1
  simp (disch := first | omega | (simp only [newRow_size, Array.size_setIfInBounds, Array.size_push]; done) | (simp only [newRow_size, Array.size_setIfInBounds, Array.size_push]; omega)) [r9_5, r9_7, eqT, eqF, neT, neF, ltT, ltF, leT, leF, nltT, nltF, nleT, nleF, nneT, nneF, flipX, List.getElem?_cons_zero, List.getElem?_cons_succ]
  have o2 : One h.size h2 b (some r) (first n) := One.first (h1 := h1) (n := 0) s2 (by omega) (by omega) (by omega) (by omega)
  have sc2 := (sc.kept k1 (by simp)).kept k2 (by simp)
  have hno : (first n).nodes = n := rfl
  generalize some r = ro at o2
  generalize first n = x at o2 hno
  clear s2 k2 k1 sc
  refine loop_rule (fun m s g => ∃ (i : Nat) (x : Sv) (r : Option Nat), m = 1000 - i ∧ i ≤ 160 ∧ s = [(0, .int .i64 n), (1, v), (6, .pointer (some ⟨b, 0, none⟩)), (8, .int .i64 i)] ∧ One h.size g b r x ∧ x.nodes = n ∧ ScAt h.size g v acts) ?_ _ 1000 _ _ (by omega) ⟨0, _, _, rfl, by omega, rfl, o2, hno, sc2⟩
  clear o2 sc2 hno
  rintro m s g again ⟨i, x, r, rfl, hi, rfl, o, hno, sc⟩ ih
  have hl := sc.len
  have hmax := o.g.len
  have hl0 : 0 < x.vs.length := List.length_pos_iff.2 o.ne
  by_cases hlt : i < acts.length ∧ i < 160
  · obtain ⟨hlt1, hlt2⟩ := hlt
    simp (disch := first | omega | (simp only [newRow_size, Array.size_setIfInBounds, Array.size_push]; done) | (simp only [newRow_size, Array.size_setIfInBounds, Array.size_push]; omega)) [l9_27, r9_8, hl, eqT, eqF, neT, neF, ltT, ltF, leT, leF, nltT, nltF, nleT, nleF, nneT, nneF, flipX, List.getElem?_cons_zero, List.getElem?_cons_succ, r9_9, Settled_eq (F := F) (by omega) o.s, r9_10]
    refine Ans.next (All_spec (F := F) (by omega) o.s (by omega)) ?_
    rintro v3 h3 ⟨q3, rfl, e3, z3, k3⟩
    have o3 := o.frame k3
    have sc3 := sc.kept k3 (by simp)
    have sc0 := sc3
    rcases sc3 with ⟨_, rfl⟩ | ⟨sb, so, cc, cs, es, lv, an, rfl, hN, hg, hi'⟩
    · simp at hlt1
    obtain ⟨a, ha⟩ : ∃ a, acts[i]? = some a := ⟨_, List.getElem?_eq_getElem hlt1⟩
    obtain ⟨q1, q2, ok⟩ := hi' i a ha
    have hw : IntKind.i64.wrap ((i : Int) + 1) = ((i + 1 : Nat) : Int) := by rw [IntKind.wrap_i64]; omega
    simp (disch := first | omega | (simp only [newRow_size, Array.size_setIfInBounds, Array.size_push]; done) | (simp only [newRow_size, Array.size_setIfInBounds, Array.size_push]; omega)) [r9_11, hg, q1, eqT, eqF, neT, neF, ltT, ltF, leT, leF, nltT, nltF, nleT, nleF, nneT, nneF, flipX, List.getElem?_cons_zero, List.getElem?_cons_succ]
    have hp := did_spec (F := F) (by omega) o3.s o3.g ok
    simp only [Act.val] at hp
    refine Ans.next hp ?_
    intro v4 h4 p4
    obtain ⟨r', rfl, o4, k4⟩ := o3.step p4
    have sc4 := sc0.stepO o3 k4
    have hmax4 := o4.g.len
    have hl04 : 0 < (actM x a).vs.length := List.length_pos_iff.2 o4.ne
    have hno4 : (actM x a).nodes = n := by
      rw [← hno]
      unfold actM
      have hp : ∀ p q, (prom x p q).2.nodes = x.nodes := by
        intro p q; unfold prom
        split
        · rfl
        split
        · rfl
        split
        · rfl
        split <;> rfl
      have hs : ∀ p q, (setl x p q).2.nodes = x.nodes := by intro p q; unfold setl; split <;> rfl
      split
      · exact hp _ _
      split
      · exact hs _ _
      split
      · unfold takeM
        split
        · rfl
        split
        · exact hs _ _
        · rfl
      · rfl
    simp (disch := first | omega | (simp only [newRow_size, Array.size_setIfInBounds, Array.size_push]; done) | (simp only [newRow_size, Array.size_setIfInBounds, Array.size_push]; omega)) [r9_12, eqT, eqF, neT, neF, ltT, ltF, leT, leF, nltT, nltF, nleT, nleF, nneT, nneF, flipX, List.getElem?_cons_zero, List.getElem?_cons_succ]
    refine Ans.next (All_spec (F := F) (by omega) o4.s (by omega)) ?_
    rintro v5 h5 ⟨q5, rfl, e5, z5, k5⟩
    have o5 := o4.frame k5
    have sc5 := sc4.kept k5 (by simp)
    have hset := Settled_eq (F := F) (by omega) o5.s
    have hwl : IntKind.i64.wrap ((x.vs.length : Int) + 1) = (x.vs.length : Int) + 1 := wrap_id (by omega) (by omega)
    have hdf := did_facts x a
    generalize actM x a = y at *
    have hr13 : ∀ (kn : K), evR (cf F) r9_13 [(0, .int .i64 n), (1, .slice (some ⟨sb, so, none⟩) acts.length cc), (6, .pointer (some ⟨b, 0, none⟩)), (8, .int .i64 i), (9, .bool x.st), (10, .int .i64 x.vs.length), (11, .bool (didM x a).1), (12, .bool (didM x a).2), (13, .slice (some ⟨q5, 0, none⟩) y.vs.length y.vs.length)] h5 kn [0, 1, 6, 8, 13, 107] []
        = kn [(0, .int .i64 n), (1, .slice (some ⟨sb, so, none⟩) acts.length cc), (6, .pointer (some ⟨b, 0, none⟩)), (8, .int .i64 i), (13, .slice (some ⟨q5, 0, none⟩) y.vs.length y.vs.length), (107, .bool false)] h5 [] := by
      intro kn
      rcases hdf with ⟨d1, d2, d3, d4, d5⟩ | ⟨d1, d2, d3, d4⟩
      · simp (disch := first | omega | (simp only [newRow_size, Array.size_setIfInBounds, Array.size_push]; done) | (simp only [newRow_size, Array.size_setIfInBounds, Array.size_push]; omega)) [r9_13, d1, d2, d3, d4, d5, hset, hwl, eqT, eqF, neT, neF, ltT, ltF, leT, leF, nltT, nltF, nleT, nleF, nneT, nneF, flipX, List.getElem?_cons_zero, List.getElem?_cons_succ]
      · rw [d2, d1]
        cases d5 : (didM x a).2 with
        | true =>
          have d6 := d3 d5
          cases d7 : x.st <;> simp (disch := first | omega | (simp only [newRow_size, Array.size_setIfInBounds, Array.size_push]; done) | (simp only [newRow_size, Array.size_setIfInBounds, Array.size_push]; omega)) [r9_13, d6, hset, eqT, eqF, neT, neF, ltT, ltF, leT, leF, nltT, nltF, nleT, nleF, nneT, nneF, flipX, List.getElem?_cons_zero, List.getElem?_cons_succ]
        | false =>
          cases d7 : x.st with
          | true =>
            have d6 := d4 d7
            simp (disch := first | omega | (simp only [newRow_size, Array.size_setIfInBounds, Array.size_push]; done) | (simp only [newRow_size, Array.size_setIfInBounds, Array.size_push]; omega)) [r9_13, d6, hset, eqT, eqF, neT, neF, ltT, ltF, leT, leF, nltT, nltF, nleT, nleF, nneT, nneF, flipX, List.getElem?_cons_zero, List.getElem?_cons_succ]
          | false => simp (disch := first | omega | (simp only [newRow_size, Array.size_setIfInBounds, Array.size_push]; done) | (simp only [newRow_size, Array.size_setIfInBounds, Array.size_push]; omega)) [r9_13, hset, eqT, eqF, neT, neF, ltT, ltF, leT, leF, nltT, nltF, nleT, nleF, nneT, nneF, flipX, List.getElem?_cons_zero, List.getElem?_cons_succ]
    simp (disch := first | omega | (simp only [newRow_size, Array.size_setIfInBounds, Array.size_push]; done) | (simp only [newRow_size, Array.size_setIfInBounds, Array.size_push]; omega)) []
    rw [hr13]
    simp (disch := first | omega | (simp only [newRow_size, Array.size_setIfInBounds, Array.size_push]; done) | (simp only [newRow_size, Array.size_setIfInBounds, Array.size_push]; omega)) [r9_15, eqT, eqF, neT, neF, ltT, ltF, leT, leF, nltT, nltF, nleT, nleF, nneT, nneF, flipX, List.getElem?_cons_zero, List.getElem?_cons_succ]
    have hyl := vcs_length y.vs
    refine loop_rule (fun m s g => ∃ (k : Nat), m = 1000 - k ∧ k ≤ y.vs.length ∧ s = [(0, .int .i64 n), (1, .slice (some ⟨sb, so, none⟩) acts.length cc), (6, .pointer (some ⟨b, 0, none⟩)), (8, .int .i64 i), (13, .slice (some ⟨q5, 0, none⟩) y.vs.length y.vs.length), (14, .int .i64 k)] ∧ Kept h5 g []) ?_ _ 1000 _ _ (by omega) ⟨0, rfl, by omega, rfl, Kept.refl _ _⟩
    rintro m s g2 again2 ⟨k, rfl, hk, rfl, kg⟩ ih2
    have e6 := (kg.get (lt_of_get e5) (by simp)).trans e5
    have hq5 := lt_of_get e6
    by_cases hklt : k < y.vs.length
    · obtain ⟨w, hw'⟩ : ∃ w, y.vs[k]? = some w := ⟨_, List.getElem?_eq_getElem hklt⟩
      have hat := vcs_at y.vs k w hw'
      have hnum := o4.g.num k w hw'
      simp only [Vw.cells] at hat
      have hwk : IntKind.i64.wrap ((k : Int) + 1) = ((k + 1 : Nat) : Int) := by rw [IntKind.wrap_i64]; omega
      simp (disch := first | omega | (simp only [newRow_size, Array.size_setIfInBounds, Array.size_push]; done) | (simp only [newRow_size, Array.size_setIfInBounds, Array.size_push]; omega)) [l9_23, r9_16, r9_17, e6, hyl, hat, r9_18, hwk, eqT, eqF, neT, neF, ltT, ltF, leT, leF, nltT, nltF, nleT, nleF, nneT, nneF, flipX, List.getElem?_cons_zero, List.getElem?_cons_succ]
      by_cases hk0 : k = 0
      · subst hk0
        simp (disch := first | omega | (simp only [newRow_size, Array.size_setIfInBounds, Array.size_push]; done) | (simp only [newRow_size, Array.size_setIfInBounds, Array.size_push]; omega)) [d9_20, r9_22, eqT, eqF, neT, neF, ltT, ltF, leT, leF, nltT, nltF, nleT, nleF, nneT, nneF, flipX, List.getElem?_cons_zero, List.getElem?_cons_succ]
        exact ih2 (1000 - 1) _ _ (by omega) ⟨1, rfl, by omega, rfl, kg.trans ⟨(by first | omega | (simp only [newRow_size, Array.size_setIfInBounds, Array.size_push]; done) | (simp only [newRow_size, Array.size_setIfInBounds, Array.size_push]; omega)), fun c hc _ => by simp (disch := first | omega | (simp only [newRow_size, Array.size_setIfInBounds, Array.size_push]; done) | (simp only [newRow_size, Array.size_setIfInBounds, Array.size_push]; omega)) []⟩⟩
      · obtain ⟨u, hu⟩ : ∃ u, y.vs[k - 1]? = some u := ⟨_, List.getElem?_eq_getElem (by omega)⟩
        have hch := o4.g.chain (k - 1) u w hu (by rw [show k - 1 + 1 = k by omega]; exact hw')
        obtain ⟨hp1, hp2⟩ := vcs_pair y.vs (k - 1) u hu
        have hwk1 : IntKind.i64.wrap ((k : Int) - 1) = ((k - 1 : Nat) : Int) := by rw [IntKind.wrap_i64]; omega
        by_cases hpri : w.pri = u.pri
        · simp (disch := first | omega | (simp only [newRow_size, Array.size_setIfInBounds, Array.size_push]; done) | (simp only [newRow_size, Array.size_setIfInBounds, Array.size_push]; omega)) [d9_20, r9_22, e6, hwk1, hp1, hp2, hyl, hwk, eqT, eqF, neT, neF, ltT, ltF, leT, leF, nltT, nltF, nleT, nleF, nneT, nneF, flipX, List.getElem?_cons_zero, List.getElem?_cons_succ]
          exact ih2 (1000 - (k + 1)) _ _ (by omega) ⟨k + 1, rfl, by omega, rfl, kg.trans ⟨(by first | omega | (simp only [newRow_size, Array.size_setIfInBounds, Array.size_push]; done) | (simp only [newRow_size, Array.size_setIfInBounds, Array.size_push]; omega)), fun c hc _ => by simp (disch := first | omega | (simp only [newRow_size, Array.size_setIfInBounds, Array.size_push]; done) | (simp only [newRow_size, Array.size_setIfInBounds, Array.size_push]; omega)) []⟩⟩
        · have hbk : w.pri = u.bak := by omega
          simp (disch := first | omega | (simp only [newRow_size, Array.size_setIfInBounds, Array.size_push]; done) | (simp only [newRow_size, Array.size_setIfInBounds, Array.size_push]; omega)) [d9_20, r9_22, e6, hwk1, hp1, hp2, hyl, hwk, eqT, eqF, neT, neF, ltT, ltF, leT, leF, nltT, nltF, nleT, nleF, nneT, nneF, flipX, List.getElem?_cons_zero, List.getElem?_cons_succ]
          exact ih2 (1000 - (k + 1)) _ _ (by omega) ⟨k + 1, rfl, by omega, rfl, kg.trans ⟨(by first | omega | (simp only [newRow_size, Array.size_setIfInBounds, Array.size_push]; done) | (simp only [newRow_size, Array.size_setIfInBounds, Array.size_push]; omega)), fun c hc _ => by simp (disch := first | omega | (simp only [newRow_size, Array.size_setIfInBounds, Array.size_push]; done) | (simp only [newRow_size, Array.size_setIfInBounds, Array.size_push]; omega)) []⟩⟩
    · have o6 := o5.frame kg
      have sc6 := sc5.kept kg (by simp)
      obtain ⟨us, hus⟩ := now_last o4.ne
      have hln : y.vs[y.vs.length - 1]? = some y.now := by
        have : us.length = y.vs.length - 1 := by rw [hus]; simp
        rw [← this, hus]; simp [Sv.now, lastV]
      have hat := vcs_at y.vs _ _ hln
      simp only [Vw.cells] at hat
      have hwl1 : IntKind.i64.wrap ((y.vs.length : Int) - 1) = ((y.vs.length - 1 : Nat) : Int) := by rw [IntKind.wrap_i64]; omega
      simp (disch := first | omega | (simp only [newRow_size, Array.size_setIfInBounds, Array.size_push]; done) | (simp only [newRow_size, Array.size_setIfInBounds, Array.size_push]; omega)) [l9_23, r9_16, eqT, eqF, neT, neF, ltT, ltF, leT, leF, nltT, nltF, nleT, nleF, nneT, nneF, flipX, List.getElem?_cons_zero, List.getElem?_cons_succ, d9_24]
      refine Ans.nextD (Now_spec (F := F) (by omega) o6.s (by omega)) ?_
      rintro v7 h7 ⟨rfl, k7⟩
      have e7 := (k7.get (lt_of_get e6) (by simp)).trans e6
      simp (disch := first | omega | (simp only [newRow_size, Array.size_setIfInBounds, Array.size_push]; done) | (simp only [newRow_size, Array.size_setIfInBounds, Array.size_push]; omega)) [eqT, eqF, neT, neF, ltT, ltF, leT, leF, nltT, nltF, nleT, nleF, nneT, nneF, flipX, List.getElem?_cons_zero, List.getElem?_cons_succ, hwl1, e7, e6, hat, hyl, Vw.val, Vw.cells, dk_go, chks_nil, chks_cons, chkA_nil, chkA_cons, chk1_no, chk1_yes, chkV_some, hAt_eq, hOf_some, hOf_none, sameV, sameL, sameCell, r9_26, hw]
      exact ih (1000 - (i + 1)) _ _ (by omega) ⟨i + 1, y, r', rfl, by omega, rfl, o6.frame k7, hno4, sc6.kept k7 (by simp)⟩
  · by_cases hlt1 : i < acts.length
    · have : ¬ i < 160 := fun e => hlt ⟨hlt1, e⟩
      simp (disch := first | omega | (simp only [newRow_size, Array.size_setIfInBounds, Array.size_push]; done) | (simp only [newRow_size, Array.size_setIfInBounds, Array.size_push]; omega)) [l9_27, r9_8, hl, eqT, eqF, neT, neF, ltT, ltF, leT, leF, nltT, nltF, nleT, nleF, nneT, nneF, flipX, List.getElem?_cons_zero, List.getElem?_cons_succ, r9_28]
      exact Ans.of rfl
    · simp (disch := first | omega | (simp only [newRow_size, Array.size_setIfInBounds, Array.size_push]; done) | (simp only [newRow_size, Array.size_setIfInBounds, Array.size_push]; omega)) [l9_27, r9_8, hl, eqT, eqF, neT, neF, ltT, ltF, leT, leF, nltT, nltF, nleT, nleF, nneT, nneF, flipX, List.getElem?_cons_zero, List.getElem?_cons_succ, r9_28]
      exact Ans.of rfl

end Go.Proofs.Ytefbpobeclkbhaa
