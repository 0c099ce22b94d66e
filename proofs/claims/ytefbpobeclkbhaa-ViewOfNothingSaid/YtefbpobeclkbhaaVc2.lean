/- ViewTwo. -/
import Derived.Test.YtefbpobeclkbhaaVc1
set_option linter.unusedSimpArgs false
set_option linter.unusedVariables false
namespace Go.Proofs.Ytefbpobeclkbhaa
open Go.Ev

/-- The blocks of a pair of services. -/
def blocks (b B : Nat) (r r2 : Option Nat) : List Nat := b :: B :: (r.toList ++ r2.toList)

theorem Both.lt {N : Nat} {h : H} {b B : Nat} {r r2 : Option Nat} {x : Sv} (s : Both N h b B r r2 x) : ∀ p ∈ blocks b B r r2, p < h.size := by
  intro p hp
  simp only [blocks, List.mem_cons, List.mem_append, Option.mem_toList, Option.mem_def] at hp
  rcases hp with rfl | rfl | e | e
  · exact s.s.ltb
  · exact lt_of_get s.box
  · exact s.s.ltr p e
  · exact s.s.ltd p e

theorem Both.kept {N : Nat} {h h' : H} {b B : Nat} {r r2 : Option Nat} {x : Sv} {L : List Nat} (s : Both N h b B r r2 x) (k : Kept h h' L) (hn : ∀ p ∈ blocks b B r r2, p ∉ L) : Both N h' b B r r2 x := by
  refine ⟨s.s.kept k (hn b (by simp [blocks])) ?_ ?_, s.g, (k.get (lt_of_get s.box) (hn B (by simp [blocks]))).trans s.box, s.nb, s.nB, s.ne, s.nr, s.nr2⟩
  · intro q e; exact hn q (by simp [blocks, e])
  · intro q e; exact hn q (by simp [blocks, e])

def Apart (l m : List Nat) : Prop := ∀ p ∈ l, p ∉ m

theorem Apart.symm {l m : List Nat} (a : Apart l m) : Apart m l := fun p hp hq => a p hq hp

theorem fresh_blocks {h : H} {b B : Nat} {r r2 r' r2' : Option Nat} (f1 : fresh h r r') (f2 : fresh h r2 r2') : ∀ p ∈ blocks b B r' r2', p ∈ blocks b B r r2 ∨ h.size ≤ p := by
  intro p hp
  simp only [blocks, List.mem_cons, List.mem_append, Option.mem_toList, Option.mem_def] at hp ⊢
  rcases hp with e | e | e | e
  · exact .inl (.inl e)
  · exact .inl (.inr (.inl e))
  · rcases f1 with e' | ⟨q, e', hq⟩
    · exact .inl (.inr (.inr (.inl (by rw [← e', e]))))
    · rw [e'] at e; cases e; exact .inr hq
  · rcases f2 with e' | ⟨q, e', hq⟩
    · exact .inl (.inr (.inr (.inr (by rw [← e', e]))))
    · rw [e'] at e; cases e; exact .inr hq

/-- An act of the one leaves the other as it was. -/
theorem Both.other {N : Nat} {h h' : H} {b B c C : Nat} {r r2 r' r2' t t2 : Option Nat} {x y : Sv} (s : Both N h b B r r2 x) (o : Both N h c C t t2 y) (ap : Apart (blocks b B r r2) (blocks c C t t2))
    (f1 : fresh h r r') (f2 : fresh h r2 r2') (k : Kept h h' (b :: B :: r.toList)) : Both N h' c C t t2 y ∧ Apart (blocks b B r' r2') (blocks c C t t2) := by
  refine ⟨o.kept k ?_, ?_⟩
  · intro p hp hm
    refine ap p ?_ hp
    simp only [List.mem_cons, blocks, List.mem_append] at hm ⊢
    rcases hm with e | e | e
    · exact .inl e
    · exact .inr (.inl e)
    · exact .inr (.inr (.inl e))
  · intro p hp hm
    rcases fresh_blocks f1 f2 p hp with e | e
    · exact ap p e hm
    · have := o.lt p hm; omega

theorem ScAt.step {N : Nat} {h h' : H} {b B : Nat} {r r2 : Option Nat} {x : Sv} {v : Value} {acts : List Act} (s : Both N h b B r r2 x) (sc : ScAt N h v acts) (k : Kept h h' (b :: B :: r.toList)) : ScAt N h' v acts := by
  refine sc.kept k ?_
  intro q hq hm
  simp only [List.mem_cons, Option.mem_toList, Option.mem_def] at hm
  have := s.nb
  have := s.nB
  rcases hm with e | e | e
  · omega
  · omega
  · have := (s.nr q e).1; omega

set_option maxHeartbeats 1000000 in
theorem two_spec {F : Nat} (hF : 1010 ≤ F) {h : H} {v : Value} {acts : List Act} (sc : ScAt h.size h v acts) (n m : Int) :
    Ans (cf F 7 [.int .i64 n, .int .i64 m, v] h) fun v h' => v = .bool true := by
  obtain ⟨F, rfl⟩ : ∃ G, F = G + 1 := ⟨F - 1, by omega⟩
  rw [cf_step (a := a7) rfl rfl (by simp [a7])]
  simp (disch := first | omega | (simp only [newRow_size, Array.size_setIfInBounds, Array.size_push]; done) | (simp only [newRow_size, Array.size_setIfInBounds, Array.size_push]; omega)) [a7, r7_0, r7_1]
  refine Ans.next (begins_spec (F := F) (by omega) h) ?_
  rintro v1 h1 ⟨rfl, k1⟩
  have y1 := k1.1
  simp (disch := first | omega | (simp only [newRow_size, Array.size_setIfInBounds, Array.size_push]; done) | (simp only [newRow_size, Array.size_setIfInBounds, Array.size_push]; omega)) [r7_2, r7_4]
  by_cases hn : n < 1 ∨ 5 < n
  · rw [New_bad (by omega) h1 n hn]
    simp (disch := first | omega | (simp only [newRow_size, Array.size_setIfInBounds, Array.size_push]; done) | (simp only [newRow_size, Array.size_setIfInBounds, Array.size_push]; omega)) [r7_5, eqT, eqF, neT, neF, ltT, ltF, leT, leF, nltT, nltF, nleT, nleF, nneT, nneF, flipX, List.getElem?_cons_zero, List.getElem?_cons_succ]
    by_cases hm : m < 1 ∨ 5 < m
    · rw [New_bad (by omega) h1 m hm]
      simp (disch := first | omega | (simp only [newRow_size, Array.size_setIfInBounds, Array.size_push]; done) | (simp only [newRow_size, Array.size_setIfInBounds, Array.size_push]; omega)) [r7_6, eqT, eqF, neT, neF, ltT, ltF, leT, leF, nltT, nltF, nleT, nleF, nneT, nneF, flipX, List.getElem?_cons_zero, List.getElem?_cons_succ]
      refine Ans.next (rNew_bad (F := F) (by omega) h1 n hn) ?_
      rintro v2 h2 ⟨rfl, k2⟩
      simp (disch := first | omega | (simp only [newRow_size, Array.size_setIfInBounds, Array.size_push]; done) | (simp only [newRow_size, Array.size_setIfInBounds, Array.size_push]; omega)) [RV, r7_7, eqT, eqF, neT, neF, ltT, ltF, leT, leF, nltT, nltF, nleT, nleF, nneT, nneF, flipX, List.getElem?_cons_zero, List.getElem?_cons_succ]
      refine Ans.next (rNew_bad (F := F) (by omega) _ m hm) ?_
      rintro v3 h3 ⟨rfl, k3⟩
      simp (disch := first | omega | (simp only [newRow_size, Array.size_setIfInBounds, Array.size_push]; done) | (simp only [newRow_size, Array.size_setIfInBounds, Array.size_push]; omega)) [RV, r7_8, r7_10, r7_11, eqT, eqF, neT, neF, ltT, ltF, leT, leF, nltT, nltF, nleT, nleF, nneT, nneF, flipX, List.getElem?_cons_zero, List.getElem?_cons_succ]
      exact Ans.of rfl
    · refine Ans.next (New_spec (F := F) (by omega) h1 m (by omega) (by omega)) ?_
      rintro v2 h2 ⟨b, r, rfl, s2, zb, zr, k2⟩
      simp (disch := first | omega | (simp only [newRow_size, Array.size_setIfInBounds, Array.size_push]; done) | (simp only [newRow_size, Array.size_setIfInBounds, Array.size_push]; omega)) [r7_6, eqT, eqF, neT, neF, ltT, ltF, leT, leF, nltT, nltF, nleT, nleF, nneT, nneF, flipX, List.getElem?_cons_zero, List.getElem?_cons_succ]
      refine Ans.next (rNew_bad (F := F) (by omega) h2 n hn) ?_
      rintro v3 h3 ⟨rfl, k3⟩
      simp (disch := first | omega | (simp only [newRow_size, Array.size_setIfInBounds, Array.size_push]; done) | (simp only [newRow_size, Array.size_setIfInBounds, Array.size_push]; omega)) [RV, r7_7, eqT, eqF, neT, neF, ltT, ltF, leT, leF, nltT, nltF, nleT, nleF, nneT, nneF, flipX, List.getElem?_cons_zero, List.getElem?_cons_succ]
      refine Ans.next (rNew_spec (F := F) (by omega) _ m (by omega) (by omega)) ?_
      rintro v4 h4 ⟨r2, rfl, d4, z4, k4⟩
      simp (disch := first | omega | (simp only [newRow_size, Array.size_setIfInBounds, Array.size_push]; done) | (simp only [newRow_size, Array.size_setIfInBounds, Array.size_push]; omega)) [RV, r7_8, r7_10, r7_11, eqT, eqF, neT, neF, ltT, ltF, leT, leF, nltT, nltF, nleT, nleF, nneT, nneF, flipX, List.getElem?_cons_zero, List.getElem?_cons_succ]
      exact Ans.of rfl
  refine Ans.next (New_spec (F := F) (by omega) h1 n (by omega) (by omega)) ?_
  rintro v2 h2 ⟨b, r, rfl, s2, zb, zr, k2⟩
  have y2 := k2.1
  simp (disch := first | omega | (simp only [newRow_size, Array.size_setIfInBounds, Array.size_push]; done) | (simp only [newRow_size, Array.size_setIfInBounds, Array.size_push]; omega)) [r7_5, eqT, eqF, neT, neF, ltT, ltF, leT, leF, nltT, nltF, nleT, nleF, nneT, nneF, flipX, List.getElem?_cons_zero, List.getElem?_cons_succ]
  by_cases hm : m < 1 ∨ 5 < m
  · rw [New_bad (by omega) h2 m hm]
    simp (disch := first | omega | (simp only [newRow_size, Array.size_setIfInBounds, Array.size_push]; done) | (simp only [newRow_size, Array.size_setIfInBounds, Array.size_push]; omega)) [r7_6, eqT, eqF, neT, neF, ltT, ltF, leT, leF, nltT, nltF, nleT, nleF, nneT, nneF, flipX, List.getElem?_cons_zero, List.getElem?_cons_succ]
    refine Ans.next (rNew_spec (F := F) (by omega) h2 n (by omega) (by omega)) ?_
    rintro v3 h3 ⟨r3, rfl, d3, z3, k3⟩
    simp (disch := first | omega | (simp only [newRow_size, Array.size_setIfInBounds, Array.size_push]; done) | (simp only [newRow_size, Array.size_setIfInBounds, Array.size_push]; omega)) [RV, r7_7, eqT, eqF, neT, neF, ltT, ltF, leT, leF, nltT, nltF, nleT, nleF, nneT, nneF, flipX, List.getElem?_cons_zero, List.getElem?_cons_succ]
    refine Ans.next (rNew_bad (F := F) (by omega) _ m hm) ?_
    rintro v4 h4 ⟨rfl, k4⟩
    simp (disch := first | omega | (simp only [newRow_size, Array.size_setIfInBounds, Array.size_push]; done) | (simp only [newRow_size, Array.size_setIfInBounds, Array.size_push]; omega)) [RV, r7_8, r7_10, r7_11, eqT, eqF, neT, neF, ltT, ltF, leT, leF, nltT, nltF, nleT, nleF, nneT, nneF, flipX, List.getElem?_cons_zero, List.getElem?_cons_succ]
    exact Ans.of rfl
  refine Ans.next (New_spec (F := F) (by omega) h2 m (by omega) (by omega)) ?_
  rintro v3 h3 ⟨c, t, rfl, s3, zc, zt, k3⟩
  have y3 := k3.1
  simp (disch := first | omega | (simp only [newRow_size, Array.size_setIfInBounds, Array.size_push]; done) | (simp only [newRow_size, Array.size_setIfInBounds, Array.size_push]; omega)) [r7_6, eqT, eqF, neT, neF, ltT, ltF, leT, leF, nltT, nltF, nleT, nleF, nneT, nneF, flipX, List.getElem?_cons_zero, List.getElem?_cons_succ]
  refine Ans.next (rNew_spec (F := F) (by omega) h3 n (by omega) (by omega)) ?_
  rintro v4 h4 ⟨r2, rfl, d4, z4, k4⟩
  have y4 := k4.1
  simp (disch := first | omega | (simp only [newRow_size, Array.size_setIfInBounds, Array.size_push]; done) | (simp only [newRow_size, Array.size_setIfInBounds, Array.size_push]; omega)) [RV, r7_7, eqT, eqF, neT, neF, ltT, ltF, leT, leF, nltT, nltF, nleT, nleF, nneT, nneF, flipX, List.getElem?_cons_zero, List.getElem?_cons_succ]
  have e4 : hget (Ev.newRow h4 [.int .i64 (first n).nodes, .slice (some ⟨r2, 0, none⟩) (first n).vs.length (first n).vs.length, .bool (first n).st] 0 []) h4.size = some (.cells [.int .i64 (first n).nodes, .slice (some ⟨r2, 0, none⟩) (first n).vs.length (first n).vs.length, .bool (first n).st] 0 true []) := by simp
  have k45 := row_kept h4 [.int .i64 (first n).nodes, .slice (some ⟨r2, 0, none⟩) (first n).vs.length (first n).vs.length, .bool (first n).st] 0 []
  have y45 : (Ev.newRow h4 [.int .i64 (first n).nodes, .slice (some ⟨r2, 0, none⟩) (first n).vs.length (first n).vs.length, .bool (first n).st] 0 []).size = h4.size + 1 := by simp
  generalize Ev.newRow h4 [.int .i64 (first n).nodes, .slice (some ⟨r2, 0, none⟩) (first n).vs.length (first n).vs.length, .bool (first n).st] 0 [] = h5 at e4 k45 y45 ⊢
  refine Ans.next (rNew_spec (F := F) (by omega) h5 m (by omega) (by omega)) ?_
  rintro v6 h6 ⟨t2, rfl, d6, z6, k6⟩
  have y6 := k6.1
  simp (disch := first | omega | (simp only [newRow_size, Array.size_setIfInBounds, Array.size_push]; done) | (simp only [newRow_size, Array.size_setIfInBounds, Array.size_push]; omega)) [RV, r7_8, r7_10, r7_12, r7_13, eqT, eqF, neT, neF, ltT, ltF, leT, leF, nltT, nltF, nleT, nleF, nneT, nneF, flipX, List.getElem?_cons_zero, List.getElem?_cons_succ]
  have hb := lt_of_get s2.at'
  have hr := s2.vs.lt
  have hc := lt_of_get s3.at'
  have ht := s3.vs.lt
  have hd4 := d4.lt
  have hd6 := d6.lt
  have e7 : hget (Ev.newRow h6 [.int .i64 (first m).nodes, .slice (some ⟨t2, 0, none⟩) (first m).vs.length (first m).vs.length, .bool (first m).st] 0 []) h6.size = some (.cells [.int .i64 (first m).nodes, .slice (some ⟨t2, 0, none⟩) (first m).vs.length (first m).vs.length, .bool (first m).st] 0 true []) := by simp
  have k67 := row_kept h6 [.int .i64 (first m).nodes, .slice (some ⟨t2, 0, none⟩) (first m).vs.length (first m).vs.length, .bool (first m).st] 0 []
  have y67 : (Ev.newRow h6 [.int .i64 (first m).nodes, .slice (some ⟨t2, 0, none⟩) (first m).vs.length (first m).vs.length, .bool (first m).st] 0 []).size = h6.size + 1 := by simp
  generalize Ev.newRow h6 [.int .i64 (first m).nodes, .slice (some ⟨t2, 0, none⟩) (first m).vs.length (first m).vs.length, .bool (first m).st] 0 [] = h7 at e7 k67 y67 ⊢
  have k37 : Kept h3 h7 [] := ((k4.trans k45).trans k6).trans k67
  have k47 : Kept h4 h7 [] := (k45.trans k6).trans k67
  have k57 : Kept h5 h7 [] := k6.trans k67
  have bo : Both h.size h7 b h4.size (some r) (some r2) (first n) := by
    refine ⟨⟨(s2.frame k3).frame k37, d4.frame k47, ?_, ?_⟩, Good.first (by omega) (by omega), ?_, by omega, by omega, by omega, ?_, ?_⟩
    · intro e; cases e; omega
    · intro q e e'; cases e; cases e'; omega
    · exact (k57.get (by omega) (by simp)).trans e4
    · intro q e; cases e; omega
    · intro q e; cases e; omega
  have co : Both h.size h7 c h6.size (some t) (some t2) (first m) := by
    refine ⟨⟨s3.frame k37, d6.frame k67, ?_, ?_⟩, Good.first (by omega) (by omega), e7, by omega, by omega, by omega, ?_, ?_⟩
    · intro e; cases e; omega
    · intro q e e'; cases e; cases e'; omega
    · intro q e; cases e; omega
    · intro q e; cases e; omega
  have ap : Apart (blocks b h4.size (some r) (some r2)) (blocks c h6.size (some t) (some t2)) := by
    intro p hp hq
    simp only [blocks, Option.toList, List.cons_append, List.nil_append, List.mem_cons, List.not_mem_nil, or_false] at hp hq
    omega
  have sc7 : ScAt h.size h7 v acts := ((sc.kept k1 (by simp)).kept k2 (by simp)).kept (k3.trans k37) (by simp)
  generalize h4.size = B at bo ap ⊢
  generalize h6.size = C at co ap ⊢
  generalize some r = ro at bo ap
  generalize some r2 = r2o at bo ap
  generalize some t = to' at co ap
  generalize some t2 = t2o at co ap
  generalize first n = x at bo
  generalize first m = y at co
  clear d4 d6 s2 s3 k1 k2 k3 k4 k45 k6 k67 k37 k47 k57 e4 e7
  refine loop_rule (fun l s g => ∃ (i : Nat) (x y : Sv) (r r2 t t2 : Option Nat), l = 1000 - i ∧ i ≤ 160 ∧ s = [(2, v), (8, .pointer (some ⟨b, 0, none⟩)), (10, .pointer (some ⟨c, 0, none⟩)), (12, .pointer (some ⟨B, 0, none⟩)), (14, .pointer (some ⟨C, 0, none⟩)), (16, .bool true), (17, .int .i64 i)] ∧
    Both h.size g b B r r2 x ∧ Both h.size g c C t t2 y ∧ Apart (blocks b B r r2) (blocks c C t t2) ∧ ScAt h.size g v acts) ?_ _ 1000 _ _ (by omega) ⟨0, _, _, _, _, _, _, rfl, by omega, rfl, bo, co, ap, sc7⟩
  clear bo co ap sc7
  rintro l s g again ⟨i, x, y, r, r2, t, t2, rfl, hi, rfl, bo, co, ap, sc⟩ ih
  have hl := sc.len
  by_cases hlt : i < acts.length ∧ i < 160
  · obtain ⟨hlt1, hlt2⟩ := hlt
    have sc0 := sc
    rcases sc with ⟨_, rfl⟩ | ⟨sb, so, cc, cs, es, lv, an, rfl, hN, hg, hi'⟩
    · simp at hlt1
    obtain ⟨a, ha⟩ : ∃ a, acts[i]? = some a := ⟨_, List.getElem?_eq_getElem hlt1⟩
    obtain ⟨q1, q2, ok⟩ := hi' i a ha
    have hw : IntKind.i64.wrap ((i : Int) + 1) = ((i + 1 : Nat) : Int) := by rw [IntKind.wrap_i64]; omega
    have hmod : ((i : Int).tmod 2) = (i % 2 : Nat) := by
      rw [Int.tmod_eq_emod_of_nonneg (by omega)]; omega
    have fin : ∀ (h7 : H) (x y : Sv) (r r2 t t2 : Option Nat), Both h.size h7 b B r r2 x → Both h.size h7 c C t t2 y → Apart (blocks b B r r2) (blocks c C t t2) → ScAt h.size h7 (.slice (some ⟨sb, so, none⟩) acts.length cc) acts →
        Ans (evR (cf F) r7_18 [(2, .slice (some ⟨sb, so, none⟩) acts.length cc), (8, .pointer (some ⟨b, 0, none⟩)), (10, .pointer (some ⟨c, 0, none⟩)), (12, .pointer (some ⟨B, 0, none⟩)), (14, .pointer (some ⟨C, 0, none⟩)), (16, .bool true), (17, .int .i64 i)] h7
          (evC F (cf F) (ACode.region r7_19 [2, 8, 10, 12, 14, 16, 17]) (keepK [2, 8, 10, 12, 14, 16, 17] again) (putK 0 (evC F (cf F) ((ACode.region r7_21 [6]).seq ACode.ret) (endK (cfX XD) [ARes.tmp 6]) noK (endK (cfX XD) [ARes.tmp 6])) noK) (endK (cfX XD) [ARes.tmp 6])) [2, 8, 10, 12, 14, 16, 17] []) fun v h' => v = .bool true := by
      intro h7 x y r r2 t t2 bo co ap sc
      simp (disch := first | omega | (simp only [newRow_size, Array.size_setIfInBounds, Array.size_push]; done) | (simp only [newRow_size, Array.size_setIfInBounds, Array.size_push]; omega)) [r7_18, bo.box, eqT, eqF, neT, neF, ltT, ltF, leT, leF, nltT, nltF, nleT, nleF, nneT, nneF, flipX, List.getElem?_cons_zero, List.getElem?_cons_succ]
      have hs := stands_spec (F := F) (by omega) bo.s.p bo.s.d (by have := bo.g.len; omega)
      simp only [RV] at hs
      refine Ans.next hs ?_
      rintro v8 h8 ⟨rfl, k8⟩
      have co8 := co.frame k8
      simp (disch := first | omega | (simp only [newRow_size, Array.size_setIfInBounds, Array.size_push]; done) | (simp only [newRow_size, Array.size_setIfInBounds, Array.size_push]; omega)) [co8.box, eqT, eqF, neT, neF, ltT, ltF, leT, leF, nltT, nltF, nleT, nleF, nneT, nneF, flipX, List.getElem?_cons_zero, List.getElem?_cons_succ]
      have hs := stands_spec (F := F) (by omega) co8.s.p co8.s.d (by have := co8.g.len; omega)
      simp only [RV] at hs
      refine Ans.next hs ?_
      rintro v9 h9 ⟨rfl, k9⟩
      simp (disch := first | omega | (simp only [newRow_size, Array.size_setIfInBounds, Array.size_push]; done) | (simp only [newRow_size, Array.size_setIfInBounds, Array.size_push]; omega)) [r7_19, hw, eqT, eqF, neT, neF, ltT, ltF, leT, leF, nltT, nltF, nleT, nleF, nneT, nneF, flipX, List.getElem?_cons_zero, List.getElem?_cons_succ]
      exact ih (1000 - (i + 1)) _ _ (by omega) ⟨i + 1, x, y, r, r2, t, t2, rfl, by omega, rfl, (bo.frame k8).frame k9, co8.frame k9, ap, (sc.kept k8 (by simp)).kept k9 (by simp)⟩
    by_cases hev : i % 2 = 0
    · simp (disch := first | omega | (simp only [newRow_size, Array.size_setIfInBounds, Array.size_push]; done) | (simp only [newRow_size, Array.size_setIfInBounds, Array.size_push]; omega)) [l7_20, r7_14, r7_15, d7_16, bo.box, hg, q1, hmod, eqT, eqF, neT, neF, ltT, ltF, leT, leF, nltT, nltF, nleT, nleF, nneT, nneF, flipX, List.getElem?_cons_zero, List.getElem?_cons_succ]
      have hp := played_spec (F := F) (by omega) bo.s bo.g ok
      simp only [RV, Act.val] at hp
      refine Ans.nextE hp ?_
      intro v6 h6 p6
      obtain ⟨r', r2', rfl, yB, eB, bo7, f1, f2, k7⟩ := bo.step p6
      have ho := one_sl r2' (actM x a).vs.length
      simp only [oneCell] at ho
      simp (disch := first | omega | (simp only [newRow_size, Array.size_setIfInBounds, Array.size_push]; done) | (simp only [newRow_size, Array.size_setIfInBounds, Array.size_push]; omega)) [RV, eB, ho, eqT, eqF, neT, neF, ltT, ltF, leT, leF, nltT, nltF, nleT, nleF, nneT, nneF, flipX, List.getElem?_cons_zero, List.getElem?_cons_succ]
      obtain ⟨co7, ap7⟩ := bo.other co ap f1 f2 k7
      exact fin _ _ _ _ _ _ _ bo7 co7 ap7 (sc0.step bo k7)
    · simp (disch := first | omega | (simp only [newRow_size, Array.size_setIfInBounds, Array.size_push]; done) | (simp only [newRow_size, Array.size_setIfInBounds, Array.size_push]; omega)) [l7_20, r7_14, r7_15, d7_17, co.box, hg, q1, hmod, eqT, eqF, neT, neF, ltT, ltF, leT, leF, nltT, nltF, nleT, nleF, nneT, nneF, flipX, List.getElem?_cons_zero, List.getElem?_cons_succ]
      have hp := played_spec (F := F) (by omega) co.s co.g ok
      simp only [RV, Act.val] at hp
      refine Ans.nextE hp ?_
      intro v6 h6 p6
      obtain ⟨r', r2', rfl, yB, eB, co7, f1, f2, k7⟩ := co.step p6
      have ho := one_sl r2' (actM y a).vs.length
      simp only [oneCell] at ho
      simp (disch := first | omega | (simp only [newRow_size, Array.size_setIfInBounds, Array.size_push]; done) | (simp only [newRow_size, Array.size_setIfInBounds, Array.size_push]; omega)) [RV, eB, ho, eqT, eqF, neT, neF, ltT, ltF, leT, leF, nltT, nltF, nleT, nleF, nneT, nneF, flipX, List.getElem?_cons_zero, List.getElem?_cons_succ]
      obtain ⟨bo7, ap7⟩ := co.other bo ap.symm f1 f2 k7
      exact fin _ _ _ _ _ _ _ bo7 co7 ap7.symm (sc0.step co k7)
  · by_cases hlt1 : i < acts.length
    · have : ¬ i < 160 := fun e => hlt ⟨hlt1, e⟩
      simp (disch := first | omega | (simp only [newRow_size, Array.size_setIfInBounds, Array.size_push]; done) | (simp only [newRow_size, Array.size_setIfInBounds, Array.size_push]; omega)) [l7_20, r7_14, hl, eqT, eqF, neT, neF, ltT, ltF, leT, leF, nltT, nltF, nleT, nleF, nneT, nneF, flipX, List.getElem?_cons_zero, List.getElem?_cons_succ, r7_21]
      exact Ans.of rfl
    · simp (disch := first | omega | (simp only [newRow_size, Array.size_setIfInBounds, Array.size_push]; done) | (simp only [newRow_size, Array.size_setIfInBounds, Array.size_push]; omega)) [l7_20, r7_14, hl, eqT, eqF, neT, neF, ltT, ltF, leT, leF, nltT, nltF, nleT, nleF, nneT, nneF, flipX, List.getElem?_cons_zero, List.getElem?_cons_succ, r7_21]
      exact Ans.of rfl

end Go.Proofs.Ytefbpobeclkbhaa
