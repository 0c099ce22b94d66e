/- ViewKeepsWhatWasSettled. -/
import Derived.Test.YtefbpobeclkbhaaVc6
set_option linter.unusedSimpArgs false
set_option linter.unusedVariables false
namespace Go.Proofs.Ytefbpobeclkbhaa
open Go.Ev

/-- Who has what was given: as the law's list says. -/
structure Has (x : Sv) (given : Bool) (seen : Int) (hv : List Bool) : Prop where
  len : hv.length = 6
  yes : x.st = true → seen = x.now.num
  no : x.st = false → seen = x.now.num - 1
  has : given = true → ∃ w : Vw, x.vs[(seen - 1).toNat]? = some w ∧ 1 ≤ seen ∧ hv[w.pri.toNat]? = some true ∧ hv[w.bak.toNat]? = some true

theorem now_get {x : Sv} (h : x.vs ≠ []) : x.vs[x.vs.length - 1]? = some x.now := by
  obtain ⟨us, e⟩ := now_last h
  have : us.length = x.vs.length - 1 := by rw [e]; simp
  rw [← this]
  conv => lhs; rw [e]
  simp

/-- A step that the law passes by. -/
theorem Has.pass {x : Sv} {given : Bool} {seen : Int} {hv : List Bool} (k : Has x given seen hv) (g : Good x) (hne : x.vs ≠ []) (a : Act) (g' : Good (actM x a)) (hne' : (actM x a).vs ≠ [])
    (h : (actM x a).st = false ∨ (actM x a).now.num = seen) : Has (actM x a) given seen hv := by
  have hn := g.now hne
  have hn' := g'.now hne'
  have hl : 0 < x.vs.length := List.length_pos_iff.2 hne
  rcases did_facts x a with ⟨d1, d2, d3, d4, d5⟩ | ⟨d1, d2, d3, d4⟩
  · have hs := k.yes d3
    refine ⟨k.len, by simp [d4], fun _ => by omega, fun e => ?_⟩
    obtain ⟨w, h1, h2, h3, h4⟩ := k.has e
    refine ⟨w, ?_, h2, h3, h4⟩
    have hvs : ∃ nw, (actM x a).vs = x.vs ++ [nw] := by
      unfold actM at d5 ⊢
      have hp : ∀ p q, (prom x p q).2.vs.length = x.vs.length + 1 → ∃ nw, (prom x p q).2.vs = x.vs ++ [nw] := by
        intro p q hlen
        unfold prom at hlen ⊢
        split at hlen
        · simp at hlen
        rename_i c0
        rw [if_neg c0]
        split at hlen
        · simp at hlen
        rename_i c1
        rw [if_neg c1]
        split at hlen
        · simp at hlen
        rename_i c2
        rw [if_neg c2]
        split at hlen
        · simp at hlen
        rename_i c3
        rw [if_neg c3]
        exact ⟨_, rfl⟩
      split at d5
      · rename_i c; rw [if_pos c]; exact hp _ _ d5
      rename_i c; rw [if_neg c]
      split at d5
      · rw [setl_len] at d5; omega
      split at d5
      · have : ∀ fr k n, (takeM x fr k n).1.vs = x.vs := by
          intro fr k n
          unfold takeM
          split
          · rfl
          split
          · exact setl_len _ _ _
          · rfl
        rw [this] at d5; omega
      · omega
    obtain ⟨nw, hvs⟩ := hvs
    rw [hvs, List.getElem?_append_left]
    · exact h1
    · exact (List.getElem?_eq_some_iff.1 h1).1
  · have hnum : (actM x a).now = x.now := by unfold Sv.now; rw [d2]
    refine ⟨k.len, fun e => ?_, fun e => ?_, fun e => ?_⟩
    · rcases h with h | h
      · rw [h] at e; cases e
      · exact h.symm
    · have : x.st = false := by
        cases hx : x.st with
        | false => rfl
        | true => rw [d4 hx] at e; cases e
      rw [hnum]
      exact k.no this
    · rw [d2]; exact k.has e

theorem hv_at (hv : List Bool) (p : Nat) (c : Bool) (h : hv[p]? = some c) : ((hv.map Value.bool).drop p).take 1 = [.bool c] := by
  rw [List.drop_eq_getElem_cons (by simpa using (List.getElem?_eq_some_iff.1 h).1)]
  simp
  exact (List.getElem?_eq_some_iff.1 h).2

theorem hv_set (hv : List Bool) (p : Nat) (hp : p < hv.length) : (hv.map Value.bool).take p ++ Value.bool true :: (hv.map Value.bool).drop (p + 1) = (hv.set p true).map Value.bool := by
  rw [List.map_set, List.set_eq_take_append_cons_drop, if_pos (by simpa using hp)]

theorem One.stepF {N : Nat} {h h' : H} {b : Nat} {r : Option Nat} {x : Sv} {a : Act} {v : Value} (o : One N h b r x) (p : didPost h b r x a v h') :
    ∃ r', v = .tuple ⟨[.bool (didM x a).1, .bool (didM x a).2]⟩ ∧ One N h' b r' (actM x a) ∧ fresh h r r' ∧ Kept h h' (b :: r.toList) := by
  obtain ⟨r', e, s', f, k⟩ := p
  refine ⟨r', e, ⟨s', o.g.actM a, o.nb, ?_, actM_vs x a o.ne⟩, f, k⟩
  intro q hq
  rcases f with e' | ⟨q', e', h'⟩
  · exact o.nr q (by rw [← e', hq])
  · rw [hq] at e'; cases e'
    have := lt_of_get o.s.at'
    have := o.nb
    omega

theorem One.keptL {N : Nat} {h h' : H} {b : Nat} {r : Option Nat} {x : Sv} {L : List Nat} (o : One N h b r x) (k : Kept h h' L) (hb : b ∉ L) (hr : ∀ q, r = some q → q ∉ L) : One N h' b r x := ⟨o.s.kept k hb hr, o.g, o.nb, o.nr, o.ne⟩

theorem set_kept (h : H) (b : Nat) (x : Blk) : Kept h (Array.setIfInBounds h b x) [b] := ⟨by simp, fun c hc hn => by
  have hn' : ¬ b = c := fun e => hn (by simp [e])
  simp [hn']⟩

set_option maxHeartbeats 2000000 in
theorem keeps_spec {F : Nat} (hF : 1010 ≤ F) {h : H} {v : Value} {acts : List Act} (sc : ScAt h.size h v acts) (n fr : Int) :
    Ans (cf F 4 [.int .i64 n, v, .int .i64 fr] h) fun v h' => v = .bool true := by
  obtain ⟨F, rfl⟩ : ∃ G, F = G + 1 := ⟨F - 1, by omega⟩
  rw [cf_step (a := a4) rfl rfl (by simp [a4])]
  simp (disch := first | omega | (simp only [newRow_size, Array.size_setIfInBounds, Array.size_push]; done) | (simp only [newRow_size, Array.size_setIfInBounds, Array.size_push]; omega)) [a4, r4_0, r4_1]
  refine Ans.next (begins_spec (F := F) (by omega) h) ?_
  rintro v1 h1 ⟨rfl, k1⟩
  have y1 := k1.1
  simp (disch := first | omega | (simp only [newRow_size, Array.size_setIfInBounds, Array.size_push]; done) | (simp only [newRow_size, Array.size_setIfInBounds, Array.size_push]; omega)) [r4_2, r4_4]
  by_cases hn : n < 1 ∨ 5 < n
  · rw [New_bad (by omega) h1 n hn]
    simp (disch := first | omega | (simp only [newRow_size, Array.size_setIfInBounds, Array.size_push]; done) | (simp only [newRow_size, Array.size_setIfInBounds, Array.size_push]; omega)) [r4_5, r4_6, eqT, eqF, neT, neF, ltT, ltF, leT, leF, nltT, nltF, nleT, nleF, nneT, nneF, flipX, List.getElem?_cons_zero, List.getElem?_cons_succ]
    exact Ans.of rfl
  refine Ans.next (New_spec (F := F) (by omega) h1 n (by omega) (by omega)) ?_
  rintro v2 h2 ⟨b, r, rfl, s2, zb, zr, k2⟩
  have y2 := k2.1
  have hbs := lt_of_get s2.at'
  have hrs := s2.vs.lt
  simp (disch := first | omega | (simp only [newRow_size, Array.size_setIfInBounds, Array.size_push]; done) | (simp only [newRow_size, Array.size_setIfInBounds, Array.size_push]; omega)) [r4_5, r4_7, r4_8, r4_9, r4_10, eqT, eqF, neT, neF, ltT, ltF, leT, leF, nltT, nltF, nleT, nleF, nneT, nneF, flipX, List.getElem?_cons_zero, List.getElem?_cons_succ, List.replicate]
  have o2 : One h.size (Ev.newRow h2 [.bool false, .bool false, .bool false, .bool false, .bool false, .bool false] 1 []) b (some r) (first n) := (One.first (h1 := h1) (n := 0) s2 (by omega) (by omega) (by omega) (by omega)).frame (row_kept _ _ _ _)
  have sc2 := ((sc.kept k1 (by simp)).kept k2 (by simp)).kept (row_kept h2 [.bool false, .bool false, .bool false, .bool false, .bool false, .bool false] 1 []) (by simp)
  have e2 : hget (Ev.newRow h2 [.bool false, .bool false, .bool false, .bool false, .bool false, .bool false] 1 []) h2.size = some (.cells ([false, false, false, false, false, false].map Value.bool) 1 true []) := by simp
  have hno : (first n).nodes ≤ 5 := by simp [first]; omega
  have hk : Has (first n) false 0 [false, false, false, false, false, false] := ⟨rfl, by simp [first], by simp [first, Sv.now, lastV], by simp⟩
  have hnr : ∀ q, some r = some q → q ≠ h2.size := fun q e => by cases e; omega
  generalize [false, false, false, false, false, false] = hv at e2 hk
  generalize Ev.newRow h2 [.bool false, .bool false, .bool false, .bool false, .bool false, .bool false] 1 [] = g2 at o2 sc2 e2 ⊢
  have hnb : b ≠ h2.size := by omega
  have hnN : h.size ≤ h2.size := by omega
  generalize h2.size = q at e2 hnr hnb hnN ⊢
  generalize some r = ro at o2 hnr
  generalize first n = x at o2 hno hk
  clear s2 k2 k1 sc
  refine loop_rule (fun m s g => ∃ (i : Nat) (x : Sv) (r : Option Nat) (given : Bool) (seen : Int) (hv : List Bool), m = 1000 - i ∧ i ≤ 160 ∧ s = [(1, v), (2, .int .i64 fr), (8, .pointer (some ⟨b, 0, none⟩)), (10, .slice (some ⟨q, 0, none⟩) 6 6), (11, .bool given), (12, .int .i64 seen), (13, .int .i64 i)] ∧
    One h.size g b r x ∧ x.nodes ≤ 5 ∧ ScAt h.size g v acts ∧ hget g q = some (.cells (hv.map Value.bool) 1 true []) ∧ Has x given seen hv ∧ (∀ c, r = some c → c ≠ q)) ?_ _ 1000 _ _ (by omega) ⟨0, _, _, _, _, _, rfl, by omega, rfl, o2, hno, sc2, e2, hk, hnr⟩
  clear o2 sc2 e2 hno hk hnr
  rintro m s g again ⟨i, x, r, given, seen, hv, rfl, hi, rfl, o, hno, sc, eq, hk, hnr⟩ ih
  have hl := sc.len
  by_cases hlt : i < acts.length ∧ i < 160
  · obtain ⟨hlt1, hlt2⟩ := hlt
    have sc0 := sc
    rcases sc with ⟨_, rfl⟩ | ⟨sb, so, cc, cs, es, lv, an, rfl, hN, hg, hi'⟩
    · simp at hlt1
    obtain ⟨a, ha⟩ : ∃ a, acts[i]? = some a := ⟨_, List.getElem?_eq_getElem hlt1⟩
    obtain ⟨q1, q2, ok⟩ := hi' i a ha
    have hw : IntKind.i64.wrap ((i : Int) + 1) = ((i + 1 : Nat) : Int) := by rw [IntKind.wrap_i64]; omega
    simp (disch := first | omega | (simp only [newRow_size, Array.size_setIfInBounds, Array.size_push]; done) | (simp only [newRow_size, Array.size_setIfInBounds, Array.size_push]; omega)) [l4_26, r4_11, r4_12, hg, q1, eqT, eqF, neT, neF, ltT, ltF, leT, leF, nltT, nltF, nleT, nleF, nneT, nneF, flipX, List.getElem?_cons_zero, List.getElem?_cons_succ]
    have hp := did_spec (F := F) (by omega) o.s o.g ok
    simp only [Act.val] at hp
    refine Ans.next hp ?_
    intro v3 h3 p3
    have f3 : ∀ c, r = some c → c < g.size := o.ltr
    obtain ⟨r', rfl, o3, f3', k3⟩ := o.stepF p3
    have sc3 := sc0.stepO o k3
    have hq : q < g.size := lt_of_get eq
    have nin : q ∉ b :: r.toList := by
      intro hm
      simp only [List.mem_cons, Option.mem_toList, Option.mem_def] at hm
      rcases hm with e | e
      · exact hnb e.symm
      · exact hnr q e rfl
    have eq3 := (k3.get hq nin).trans eq
    have hq3 := lt_of_get eq3
    have hnr3 : ∀ c, r' = some c → c ≠ q := by
      intro c e
      rcases f3' with e' | ⟨c', e', hc⟩
      · exact hnr c (by rw [← e', e])
      · rw [e] at e'; cases e'; omega
    have hpass := fun hc => hk.pass o.g o.ne a o3.g o3.ne hc
    have hdf := did_facts x a
    have hno3 : (actM x a).nodes ≤ 5 := o3.g.hi
    have hnx : (didM x a).1 = false → x.st = false → ¬ (actM x a).now.num = seen → (given = true → ∃ w : Vw, (w.pri = (actM x a).now.pri ∨ w.bak = (actM x a).now.pri) ∧ hv[w.pri.toNat]? = some true ∧ hv[w.bak.toNat]? = some true) := by
      intro d1 hs _ hg
      rcases hdf with ⟨d, _⟩ | ⟨_, dvs, _, _⟩
      · rw [d1] at d; cases d
      obtain ⟨w, g1, g2, g3, g4⟩ := hk.has hg
      have hseen := hk.no hs
      have hnx := o.g.now o.ne
      have hnow : (actM x a).now = x.now := by unfold Sv.now; rw [dvs]
      refine ⟨w, ?_, g3, g4⟩
      rw [hnow]
      have hlx : (seen - 1).toNat + 1 = x.vs.length - 1 := by omega
      have := o.g.chain (seen - 1).toNat w x.now g1 (by rw [hlx]; exact now_get o.ne)
      rcases this with e | e
      · exact .inl e.symm
      · exact .inr e.symm
    have hst : (actM x a).st = true → ¬ (actM x a).now.num = seen → (didM x a).1 = false ∧ x.st = false := by
      intro e1 e2
      rcases hdf with ⟨d1, d2, d3, d4, d5⟩ | ⟨d1, d2, d3, d4⟩
      · rw [d4] at e1; cases e1
      · refine ⟨d1, ?_⟩
        cases hx : x.st with
        | false => rfl
        | true =>
          exfalso
          apply e2
          have : (actM x a).now = x.now := by unfold Sv.now; rw [d2]
          rw [this]
          exact (hk.yes hx).symm
    have hlen := hk.len
    generalize actM x a = y at *
    generalize didM x a = dm at *
    have hny := o3.g.now o3.ne
    have hmy := o3.g.len
    have hly : 0 < y.vs.length := List.length_pos_iff.2 o3.ne
    simp (disch := first | omega | (simp only [newRow_size, Array.size_setIfInBounds, Array.size_push]; done) | (simp only [newRow_size, Array.size_setIfInBounds, Array.size_push]; omega)) [r4_13]
    refine Ans.next (Now_spec (F := F) (by omega) o3.s (by omega)) ?_
    rintro v4 h4 ⟨rfl, k4⟩
    have o4 := (o3.frame k4).frame (row_kept h4 [.int .i64 y.now.num, .int .i64 y.now.pri, .int .i64 y.now.bak] 0 [])
    have sc4 := (sc3.kept k4 (by simp)).kept (row_kept h4 [.int .i64 y.now.num, .int .i64 y.now.pri, .int .i64 y.now.bak] 0 []) (by simp)
    have eq4 := ((row_kept h4 [.int .i64 y.now.num, .int .i64 y.now.pri, .int .i64 y.now.bak] 0 []).get (lt_of_get ((k4.get hq3 (by simp)).trans eq3)) (by simp)).trans ((k4.get hq3 (by simp)).trans eq3)
    have ev4 : hget (Ev.newRow h4 [.int .i64 y.now.num, .int .i64 y.now.pri, .int .i64 y.now.bak] 0 []) h4.size = some (.cells [.int .i64 y.now.num, .int .i64 y.now.pri, .int .i64 y.now.bak] 0 true []) := by simp
    have hqv : q ≠ h4.size := by have := k4.1; omega
    simp (disch := first | omega | (simp only [newRow_size, Array.size_setIfInBounds, Array.size_push]; done) | (simp only [newRow_size, Array.size_setIfInBounds, Array.size_push]; omega)) [Vw.val, Vw.cells, r4_14, eqT, eqF, neT, neF, ltT, ltF, leT, leF, nltT, nltF, nleT, nleF, nneT, nneF, flipX, List.getElem?_cons_zero, List.getElem?_cons_succ]
    generalize Ev.newRow h4 [.int .i64 y.now.num, .int .i64 y.now.pri, .int .i64 y.now.bak] 0 [] = g4 at o4 sc4 eq4 ev4 ⊢
    generalize h4.size = V at ev4 hqv ⊢
    have hset := Settled_eq (F := F) (by omega) o4.s
    have hfin : ∀ (g5 : H) (gv : Bool) (sn : Int) (hv' : List Bool) (S : Env), One h.size g5 b r' y → ScAt h.size g5 (.slice (some ⟨sb, so, none⟩) acts.length cc) acts → hget g5 q = some (.cells (hv'.map Value.bool) 1 true []) → Has y gv sn hv' →
        Ans (evR (cf F) r4_25 ((1, .slice (some ⟨sb, so, none⟩) acts.length cc) :: (2, .int .i64 fr) :: (8, .pointer (some ⟨b, 0, none⟩)) :: (10, .slice (some ⟨q, 0, none⟩) 6 6) :: (11, .bool gv) :: (12, .int .i64 sn) :: (13, .int .i64 i) :: S) g5 (keepK [1, 2, 8, 10, 11, 12, 13] again) [1, 2, 8, 10, 11, 12, 13] []) fun v h' => v = .bool true := by
      intro g5 gv sn hv' S o5 sc5 e5 k5
      simp (disch := first | omega | (simp only [newRow_size, Array.size_setIfInBounds, Array.size_push]; done) | (simp only [newRow_size, Array.size_setIfInBounds, Array.size_push]; omega)) [r4_25, hw, eqT, eqF, neT, neF, ltT, ltF, leT, leF, nltT, nltF, nleT, nleF, nneT, nneF, flipX, List.getElem?_cons_zero, List.getElem?_cons_succ]
      exact ih (1000 - (i + 1)) _ _ (by omega) ⟨i + 1, y, r', gv, sn, hv', rfl, by omega, rfl, o5, hno3, sc5, e5, k5, hnr3⟩
    cases hys : y.st with
    | false =>
      simp (disch := first | omega | (simp only [newRow_size, Array.size_setIfInBounds, Array.size_push]; done) | (simp only [newRow_size, Array.size_setIfInBounds, Array.size_push]; omega)) [r4_16, hset, hys, eqT, eqF, neT, neF, ltT, ltF, leT, leF, nltT, nltF, nleT, nleF, nneT, nneF, flipX, List.getElem?_cons_zero, List.getElem?_cons_succ]
      exact hfin _ _ _ _ _ o4 sc4 eq4 (hpass (.inl hys))
    | true =>
      by_cases hys2 : y.now.num = seen
      · simp (disch := first | omega | (simp only [newRow_size, Array.size_setIfInBounds, Array.size_push]; done) | (simp only [newRow_size, Array.size_setIfInBounds, Array.size_push]; omega)) [r4_16, hset, hys, ev4, eqT, eqF, neT, neF, ltT, ltF, leT, leF, nltT, nltF, nleT, nleF, nneT, nneF, flipX, List.getElem?_cons_zero, List.getElem?_cons_succ]
        exact hfin _ _ _ _ _ o4 sc4 eq4 (hpass (.inr hys2))
      · obtain ⟨d1, d2⟩ := hst hys hys2
        have hpl : y.now.pri.toNat < hv.length := by omega
        have hbl : y.now.bak.toNat < hv.length := by omega
        have hqs4 := lt_of_get eq4
        have hmap : ∀ l : List Bool, (l.map Value.bool).length = l.length := by simp
        have hone : ∀ l : List Bool, (l.map Value.bool).all oneCell = true := by
          intro l; rw [List.all_eq_true]; intro x hx; obtain ⟨c, _, rfl⟩ := List.mem_map.1 hx; rfl
        have hhas : ∀ hv' : List Bool, hv'.length = 6 → hv'[y.now.pri.toNat]? = some true → hv'[y.now.bak.toNat]? = some true → Has y true y.now.num hv' := by
          intro hv' l1 l2 l3
          refine ⟨l1, fun _ => rfl, by simp [hys], fun _ => ⟨y.now, ?_, by omega, l2, l3⟩⟩
          have : (y.now.num - 1).toNat = y.vs.length - 1 := by omega
          rw [this]
          exact now_get o3.ne
        simp (disch := first | omega | (simp only [newRow_size, Array.size_setIfInBounds, Array.size_push]; done) | (simp only [newRow_size, Array.size_setIfInBounds, Array.size_push]; omega)) [r4_16, hset, hys, ev4, r4_17, eqT, eqF, neT, neF, ltT, ltF, leT, leF, nltT, nltF, nleT, nleF, nneT, nneF, flipX, List.getElem?_cons_zero, List.getElem?_cons_succ]
        have hfrm : ∀ (g5 : H) (Y : Blk), One h.size g5 b r' y → One h.size (g5.setIfInBounds q Y) b r' y := fun g5 Y o5 => o5.keptL (set_kept g5 q Y) (by simpa using hnb) (fun c e => by simpa using hnr3 c e)
        have hscm : ∀ (g5 : H) (Y : Blk), ScAt h.size g5 (.slice (some ⟨sb, so, none⟩) acts.length cc) acts → ScAt h.size (g5.setIfInBounds q Y) (.slice (some ⟨sb, so, none⟩) acts.length cc) acts := fun g5 Y s5 => s5.kept (set_kept g5 q Y) (fun c hc hm => by rw [List.mem_singleton] at hm; omega)
        cases hgv : given with
        | true =>
          obtain ⟨w, hw1, hw2, hw3⟩ := hnx d1 d2 hys2 hgv
          have hpt : hv[y.now.pri.toNat]? = some true := by
            rcases hw1 with e | e
            · rw [← e]; exact hw2
            · rw [← e]; exact hw3
          have hat := hv_at hv _ _ hpt
          have hse := hv_set hv _ hbl
          simp (disch := first | omega | (simp only [newRow_size, Array.size_setIfInBounds, Array.size_push]; done) | (simp only [newRow_size, Array.size_setIfInBounds, Array.size_push]; omega)) [r4_18, r4_21, ev4, eq4, hat, hlen, eqT, eqF, neT, neF, ltT, ltF, leT, leF, nltT, nltF, nleT, nleF, nneT, nneF, flipX, List.getElem?_cons_zero, List.getElem?_cons_succ, r4_23, r4_24]
          rw [hse]
          refine hfin _ _ _ (hv.set y.now.bak.toNat true) _ (hfrm _ _ o4) (hscm _ _ sc4) (by simp (disch := first | omega | (simp only [newRow_size, Array.size_setIfInBounds, Array.size_push]; done) | (simp only [newRow_size, Array.size_setIfInBounds, Array.size_push]; omega)) []) (hhas _ (by simpa using hlen) ?_ ?_)
          · by_cases e : y.now.bak.toNat = y.now.pri.toNat
            · rw [e]; exact List.getElem?_set_self hpl
            · rw [List.getElem?_set_ne e]; exact hpt
          · exact List.getElem?_set_self hbl
        | false =>
          by_cases hgt : fr < y.now.num
          · have hse := hv_set hv _ hpl
            have hl1 : (hv.set y.now.pri.toNat true).length = 6 := by simpa using hlen
            have ht1 : (hv.set y.now.pri.toNat true)[y.now.pri.toNat]? = some true := List.getElem?_set_self hpl
            simp (disch := first | omega | (simp only [newRow_size, Array.size_setIfInBounds, Array.size_push]; done) | (simp only [newRow_size, Array.size_setIfInBounds, Array.size_push]; omega)) [r4_18, ev4, eq4, hlen, eqT, eqF, neT, neF, ltT, ltF, leT, leF, nltT, nltF, nleT, nleF, nneT, nneF, flipX, List.getElem?_cons_zero, List.getElem?_cons_succ, r4_19, r4_20]
            rw [hse]
            generalize hv.set y.now.pri.toNat true = hv1 at hl1 ht1 ⊢
            have hbl1 : y.now.bak.toNat < hv1.length := by omega
            have hse2 := hv_set hv1 y.now.bak.toNat hbl1
            have hat := hv_at hv1 y.now.pri.toNat true ht1
            have o5 := hfrm _ (.cells (hv1.map Value.bool) 1 true []) o4
            have sc5 := hscm _ (.cells (hv1.map Value.bool) 1 true []) sc4
            have eq5 : hget (g4.setIfInBounds q (.cells (hv1.map Value.bool) 1 true [])) q = some (.cells (hv1.map Value.bool) 1 true []) := by simp (disch := first | omega | (simp only [newRow_size, Array.size_setIfInBounds, Array.size_push]; done) | (simp only [newRow_size, Array.size_setIfInBounds, Array.size_push]; omega)) []
            have ev5 : hget (g4.setIfInBounds q (.cells (hv1.map Value.bool) 1 true [])) V = some (.cells [.int .i64 y.now.num, .int .i64 y.now.pri, .int .i64 y.now.bak] 0 true []) := by
              rw [set_other hqv]; exact ev4
            generalize g4.setIfInBounds q (.cells (hv1.map Value.bool) 1 true []) = g5 at *
            have hqs5 := lt_of_get eq5
            simp (disch := first | omega | (simp only [newRow_size, Array.size_setIfInBounds, Array.size_push]; done) | (simp only [newRow_size, Array.size_setIfInBounds, Array.size_push]; omega)) [r4_21, ev5, eq5, hat, hl1, eqT, eqF, neT, neF, ltT, ltF, leT, leF, nltT, nltF, nleT, nleF, nneT, nneF, flipX, List.getElem?_cons_zero, List.getElem?_cons_succ, r4_23, r4_24]
            rw [hse2]
            refine hfin _ _ _ (hv1.set y.now.bak.toNat true) _ (hfrm _ _ o5) (hscm _ _ sc5) (by simp (disch := first | omega | (simp only [newRow_size, Array.size_setIfInBounds, Array.size_push]; done) | (simp only [newRow_size, Array.size_setIfInBounds, Array.size_push]; omega)) []) (hhas _ (by simpa using hl1) ?_ ?_)
            · by_cases e : y.now.bak.toNat = y.now.pri.toNat
              · rw [e]; exact List.getElem?_set_self (by omega)
              · rw [List.getElem?_set_ne e]; exact ht1
            · exact List.getElem?_set_self hbl1
          · simp (disch := first | omega | (simp only [newRow_size, Array.size_setIfInBounds, Array.size_push]; done) | (simp only [newRow_size, Array.size_setIfInBounds, Array.size_push]; omega)) [r4_18, ev4, r4_21, eqT, eqF, neT, neF, ltT, ltF, leT, leF, nltT, nltF, nleT, nleF, nneT, nneF, flipX, List.getElem?_cons_zero, List.getElem?_cons_succ, r4_23]
            exact hfin _ _ _ _ _ o4 sc4 eq4 ⟨hlen, fun _ => rfl, by simp [hys], by simp⟩
  · by_cases hlt1 : i < acts.length
    · have : ¬ i < 160 := fun e => hlt ⟨hlt1, e⟩
      simp (disch := first | omega | (simp only [newRow_size, Array.size_setIfInBounds, Array.size_push]; done) | (simp only [newRow_size, Array.size_setIfInBounds, Array.size_push]; omega)) [l4_26, r4_11, hl, eqT, eqF, neT, neF, ltT, ltF, leT, leF, nltT, nltF, nleT, nleF, nneT, nneF, flipX, List.getElem?_cons_zero, List.getElem?_cons_succ, r4_27]
      exact Ans.of rfl
    · simp (disch := first | omega | (simp only [newRow_size, Array.size_setIfInBounds, Array.size_push]; done) | (simp only [newRow_size, Array.size_setIfInBounds, Array.size_push]; omega)) [l4_26, r4_11, hl, eqT, eqF, neT, neF, ltT, ltF, leT, leF, nltT, nltF, nleT, nleF, nneT, nneF, flipX, List.getElem?_cons_zero, List.getElem?_cons_succ, r4_27]
      exact Ans.of rfl

end Go.Proofs.Ytefbpobeclkbhaa
