/- Several texts in one: Qw16, Qw17, Qw18, Qw19, Qw20, Qw21, Qw22, Qw23. -/
import Derived.Test.YtkkagpchcefidaaW17

/- QueueOwn: lists, the whole. -/
set_option linter.unusedSimpArgs false
set_option linter.unusedVariables false
namespace Go.Proofs.Ytkkagpchcefidaa
open Go.Ev

set_option maxHeartbeats 4000000 in
theorem lsN_spec {F : Nat} (hF : 20000 ≤ F) {ok : Nat → Prop} {g : H} {B : Nat} {L G C P T N : Value} {m : Int} {es : List (Ent × Nat)} (hB : hget g B = some (.cells [L, G, C, P, T, N, .int .i64 m] 0 true [])) (s : SlR ok 3 (EntS ok 3 R1n R2n) g N es) (sm : SmallE es) {re : Env}
    {kn kr : K} {ke : Nat → K} {Q : Value → H → Prop} (hkn : ∀ g' (e : Env), Kept g g' [] → Ans (kn ((1, .pointer (some ⟨B, 0, none⟩)) :: e) g' []) Q) :
    Ans (evC F (cf F) lsN kn ke kr ((1, .pointer (some ⟨B, 0, none⟩)) :: re) g []) Q := by
  obtain ⟨sm1, sm2⟩ := sm
  have hl := s.len
  simp (disch := first | omega | (simp only [newRow_size, Array.size_setIfInBounds, Array.size_push]; done) | (simp only [newRow_size, Array.size_setIfInBounds, Array.size_push]; omega)) [lsN, r66_12]
  refine loop_rule (fun mm e g' => ∃ (i : Nat), mm = es.length - i ∧ i ≤ es.length ∧ e = [(1, .pointer (some ⟨B, 0, none⟩)), (6, .int .i64 i)] ∧ Kept g g' []) ?_ _ es.length _ _ (by omega) ⟨0, by omega, by omega, rfl, Kept.refl _ _⟩
  rintro mm e g' again ⟨i, rfl, hi, rfl, kg⟩ ih
  have hw : IntKind.i64.wrap ((i : Int) + 1) = ((i + 1 : Nat) : Int) := by rw [IntKind.wrap_i64]; omega
  have hB' := (kg.get (lt_of_get hB) (by simp)).trans hB
  have hBs := lt_of_get hB'
  by_cases hlt : i < es.length
  · obtain ⟨x, hx⟩ : ∃ x, es[i]? = some x := ⟨_, List.getElem?_eq_getElem hlt⟩
    obtain ⟨m1, m2, m3, m4⟩ := sm2 x (List.mem_of_getElem? hx)
    have hic : (i : Int) < (es.length : Int) := by omega
    have s' := s.kc kg.c (by simp) (fun _ _ _ q => q.kc kg.c)
    obtain ⟨b, o, c, cs, est, lv, an, rfl, _, hg, hle, v, hrow, sv⟩ := s'.at' hx
    have ov := sv.one
    have lv' := sv.len
    rw [gone_len] at lv'
    simp only [oneCell] at ov
    have hgs := lt_of_get hg
    simp (disch := first | omega | (simp only [newRow_size, Array.size_setIfInBounds, Array.size_push]; done) | (simp only [newRow_size, Array.size_setIfInBounds, Array.size_push]; omega)) [l66_22, r66_13, hB', hic, eqT, eqF, neT, neF, ltT, ltF, leT, leF, nltT, nltF, nleT, nleF, nneT, nneF, List.getElem?_cons_zero, List.getElem?_cons_succ, r66_14, hg, hle, hrow, hlt, ov, r66_15]
    -- the entry copied
    have k1 := rowKept g' [v, .int .i64 x.1.n, .int .i64 x.1.mr] 0 []
    have h1 : hget (Ev.newRow g' [v, .int .i64 x.1.n, .int .i64 x.1.mr] 0 []) g'.size = some (.cells [v, .int .i64 x.1.n, .int .i64 x.1.mr] 0 true []) := by simp
    have z1 : (Ev.newRow g' [v, .int .i64 x.1.n, .int .i64 x.1.mr] 0 []).size = g'.size + 1 := by simp
    generalize Ev.newRow g' [v, .int .i64 x.1.n, .int .i64 x.1.mr] 0 [] = g1 at k1 h1 z1 ⊢
    have sv1 := sv.kc k1.c (by simp) (fun _ _ _ q => q)
    refine loop_rule (fun mm e g'' => ∃ (t : Nat), mm = x.1.n + x.2 - t ∧ t ≤ x.1.n + x.2 ∧ e = [(1, .pointer (some ⟨B, 0, none⟩)), (6, .int .i64 i), (7, .pointer (some ⟨g'.size, 0, none⟩)), (8, .int .i64 t)] ∧ Kept g1 g'' []) ?_ _ (x.1.n + x.2) _ _ (by omega) ⟨0, by omega, by omega, rfl, Kept.refl _ _⟩
    rintro mm e g'' again2 ⟨t, rfl, ht, rfl, kg2⟩ ih2
    have hw2 : IntKind.i64.wrap ((t : Int) + 1) = ((t + 1 : Nat) : Int) := by rw [IntKind.wrap_i64]; omega
    have hneg : IntKind.i64.wrap (0 - x.1.mr) = -x.1.mr := by rw [IntKind.wrap_i64]; omega
    have hneg' : IntKind.i64.wrap (-x.1.mr) = -x.1.mr := by rw [IntKind.wrap_i64]; omega
    have h1' := (kg2.get (lt_of_get h1) (by simp)).trans h1
    have h1s := lt_of_get h1'
    have sv2 := sv1.kc kg2.c (by simp) (fun _ _ _ q => q)
    by_cases hlt2 : t < x.1.n + x.2
    · obtain ⟨b2, o2, c2, cs2, est2, lv2, an2, e2, _, hg2, hle2, hr2⟩ := sv2.at' (gone_at (R1 := R1n) (R2 := R2n) (m := x.1.mr) hlt2)
      rw [gone_len] at e2
      have htc : (t : Int) < ((x.1.n + x.2 : Nat) : Int) := by omega
      subst e2
      by_cases hn : t < x.1.n
      · have hnc : (t : Int) < (x.1.n : Int) := by omega
        rw [if_pos hn] at hr2
        have hr2' : (cs2.drop (o2 + t * 3)).take 3 = [.string { data := #[] }, .string { data := #[] }, .int .i64 x.1.mr] := hr2
        simp (disch := first | omega | (simp only [newRow_size, Array.size_setIfInBounds, Array.size_push]; done) | (simp only [newRow_size, Array.size_setIfInBounds, Array.size_push]; omega)) [l66_20, r66_16, h1', htc, eqT, eqF, neT, neF, ltT, ltF, leT, leF, nltT, nltF, nleT, nleF, nneT, nneF, List.getElem?_cons_zero, List.getElem?_cons_succ, d66_17, hnc, hg2, hle2, hr2', hlt2, r66_19, hw2, ba_self]
        exact ih2 (x.1.n + x.2 - (t + 1)) _ _ (by omega) ⟨t + 1, rfl, by omega, rfl, kg2⟩
      · have hnc : ¬ (t : Int) < (x.1.n : Int) := by omega
        rw [if_neg hn] at hr2
        have hr3 : (cs2.drop (o2 + t * 3)).take 3 = [.string { data := #[] }, .string { data := #[] }, .int .i64 (-x.1.mr)] := hr2
        obtain ⟨_, _, hr2'⟩ := get3 hr3
        simp (disch := first | omega | (simp only [newRow_size, Array.size_setIfInBounds, Array.size_push]; done) | (simp only [newRow_size, Array.size_setIfInBounds, Array.size_push]; omega)) [l66_20, r66_16, h1', htc, eqT, eqF, neT, neF, ltT, ltF, leT, leF, nltT, nltF, nleT, nleF, nneT, nneF, List.getElem?_cons_zero, List.getElem?_cons_succ, d66_17, hnc, hg2, hle2, hr2', hlt2, r66_19, hw2, hneg, hneg']
        exact ih2 (x.1.n + x.2 - (t + 1)) _ _ (by omega) ⟨t + 1, rfl, by omega, rfl, kg2⟩
    · have htt : t = x.1.n + x.2 := by omega
      subst htt
      have htc : ¬ ((x.1.n + x.2 : Nat) : Int) < ((x.1.n + x.2 : Nat) : Int) := by omega
      simp (disch := first | omega | (simp only [newRow_size, Array.size_setIfInBounds, Array.size_push]; done) | (simp only [newRow_size, Array.size_setIfInBounds, Array.size_push]; omega)) [l66_20, r66_16, h1', lv', htc, eqT, eqF, neT, neF, ltT, ltF, leT, leF, nltT, nltF, nleT, nleF, nneT, nneF, List.getElem?_cons_zero, List.getElem?_cons_succ, r66_21, hw]
      exact ih (es.length - (i + 1)) _ _ (by omega) ⟨i + 1, rfl, by omega, rfl, kg.trans (k1.trans kg2)⟩
  · have hii : i = es.length := by omega
    subst hii
    have hic : ¬ (es.length : Int) < (es.length : Int) := by omega
    simp (disch := first | omega | (simp only [newRow_size, Array.size_setIfInBounds, Array.size_push]; done) | (simp only [newRow_size, Array.size_setIfInBounds, Array.size_push]; omega)) [l66_22, r66_13, hB', hl, hic, eqT, eqF, neT, neF, ltT, ltF, leT, leF, nltT, nltF, nleT, nleF, nneT, nneF, List.getElem?_cons_zero, List.getElem?_cons_succ]
    exact hkn g' _ kg


theorem lists_spec {F : Nat} (hF : 30000 ≤ F) {ok : Nat → Prop} {g : H} {L G C P T N : Value} {m nL : Nat} {bC bP bT bN : List Ent} (s : Book ok g m nL bC bP bT bN L G C P T N) (hT : SmallE (mc bT (gq 64))) (hN : SmallE (mc bN (gq 64))) (ho : [L, G, C, P, T, N].all oneCell = true) :
    Ans (cf F 66 [.agg ⟨[L, G, C, P, T, N, .int .i64 m]⟩] g) fun u g' => u = .bool true ∧ Kept g g' [] := by
  obtain ⟨F, rfl⟩ : ∃ G, F = G + 1 := ⟨F - 1, by omega⟩
  rw [cf_step (a := a66) rfl rfl (by simp [a66])]
  have e : a66 = ⟨111, (.seq (.region r66_0 [1]) (.seq lsT (.seq lsN (.seq (.region r66_23 [2]) .ret)))), [.tmp 2]⟩ := rfl
  rw [e]
  simp (disch := first | omega | (simp only [newRow_size, Array.size_setIfInBounds, Array.size_push]; done) | (simp only [newRow_size, Array.size_setIfInBounds, Array.size_push]; omega)) [r66_0]
  have k1 := rowKept g [L, G, C, P, T, N, .int .i64 m] 0 []
  have h1 : hget (Ev.newRow g [L, G, C, P, T, N, .int .i64 m] 0 []) g.size = some (.cells [L, G, C, P, T, N, .int .i64 m] 0 true []) := by simp
  generalize Ev.newRow g [L, G, C, P, T, N, .int .i64 m] 0 [] = g1 at k1 h1 ⊢
  refine lsT_spec (F := F) (by omega) h1 (s.tc.kc k1.c (by simp) (fun _ _ _ q => q.kc k1.c)) hT ?_
  intro g2 e2 k2
  have k12 := k1.trans k2
  refine lsN_spec (F := F) (by omega) ((k2.get (lt_of_get h1) (by simp)).trans h1) (s.nc.kc k12.c (by simp) (fun _ _ _ q => q.kc k12.c)) hN ?_
  intro g3 e3 k3
  simp (disch := first | omega | (simp only [newRow_size, Array.size_setIfInBounds, Array.size_push]; done) | (simp only [newRow_size, Array.size_setIfInBounds, Array.size_push]; omega)) [r66_23]
  exact Ans.of ⟨rfl, k12.trans k3⟩

end Go.Proofs.Ytkkagpchcefidaa

/- QueueOwn: outer. -/
set_option linter.unusedSimpArgs false
set_option linter.unusedVariables false
namespace Go.Proofs.Ytkkagpchcefidaa
open Go.Ev

def ouC : ACode := (.seq (.region r67_4 [1, 3, 4, 5]) (.block 2 (.loop [1, 3, 4, 5] l67_12)))
def ouP : ACode := (.seq (.region r67_14 [1, 3, 7, 8]) (.block 4 (.loop [1, 3, 7, 8] l67_22)))
theorem l67_24_cut : l67_24 = (.seq (.seq (.region r67_2 [1, 3, 14]) (.cond (.tmp 14) .skip (.exit 0))) (.seq (.block 1 (.seq (.region r67_3 [1, 3, 4]) (.seq ouC (.seq (.region r67_13 [1, 3, 7]) ouP)))) (.region r67_23 [1, 3]))) := rfl

set_option maxHeartbeats 4000000 in
theorem ouC_spec {F : Nat} (hF : 20000 ≤ F) {ok : Nat → Prop} {g1 : H} {e4 : Nat} {v pB : Value} {n c i : Nat} {mr : Int} (hm : 0 ≤ mr ∧ mr ≤ 2000000000) (hn' : n ≤ 24) (hc : c ≤ 64) (h1 : hget g1 e4 = some (.cells [v, .int .i64 n, .int .i64 mr] 0 true [])) (sv1 : SlR ok 5 PrC g1 v (List.replicate n (R1c mr) ++ (List.range c).map (R2c mr))) {re : Env}
    {kn kr : K} {ke : Nat → K} {Q : Value → H → Prop} (hkn : ∀ g' (e : Env), Kept g1 g' [] → Ans (kn ((1, pB) :: (3, .int .i64 i) :: e) g' []) Q) :
    Ans (evC F (cf F) ouC kn ke kr ((1, pB) :: (3, .int .i64 i) :: (4, .pointer (some ⟨e4, 0, none⟩)) :: re) g1 []) Q := by
  have lv' := sv1.len
  rw [gone_len] at lv'
  simp (disch := first | omega | (simp only [newRow_size, Array.size_setIfInBounds, Array.size_push]; done) | (simp only [newRow_size, Array.size_setIfInBounds, Array.size_push]; omega)) [ouC, r67_4]
  refine loop_rule (fun mm e g'' => ∃ (t : Nat), mm = n + c - t ∧ t ≤ n + c ∧ e = [(1, pB), (3, .int .i64 i), (4, .pointer (some ⟨e4, 0, none⟩)), (5, .int .i64 t)] ∧ Kept g1 g'' []) ?_ _ (n + c) _ _ (by omega) ⟨0, by omega, by omega, rfl, Kept.refl _ _⟩
  rintro mm e g'' again2 ⟨t, rfl, ht, rfl, kg2⟩ ih2
  have hw2 : IntKind.i64.wrap ((t : Int) + 1) = ((t + 1 : Nat) : Int) := by rw [IntKind.wrap_i64]; omega
  have hneg : IntKind.i64.wrap (0 - mr) = -mr := by rw [IntKind.wrap_i64]; omega
  have hneg' : IntKind.i64.wrap (-mr) = -mr := by rw [IntKind.wrap_i64]; omega
  have h1' := (kg2.get (lt_of_get h1) (by simp)).trans h1
  have h1s := lt_of_get h1'
  have sv2 := sv1.kc kg2.c (by simp) (fun _ _ _ q => q)
  by_cases hlt2 : t < n + c
  · obtain ⟨b2, o2, c2, cs2, est2, lv2, an2, e2, _, hg2, hle2, hr2⟩ := sv2.at' (gone_at (R1 := R1c) (R2 := R2c) (m := mr) hlt2)
    rw [gone_len] at e2
    have htc : (t : Int) < ((n + c : Nat) : Int) := by omega
    have hg2s := lt_of_get hg2
    subst e2
    by_cases hn : t < n
    · have hnc : ¬ (n : Int) ≤ (t : Int) := by omega
      rw [if_pos hn] at hr2
      obtain ⟨u, hr2⟩ := hr2
      obtain ⟨_, _, _, hr4⟩ := get5 hr2
      simp (disch := first | omega | (simp only [newRow_size, Array.size_setIfInBounds, Array.size_push]; done) | (simp only [newRow_size, Array.size_setIfInBounds, Array.size_push]; omega)) [l67_12, r67_5, h1', htc, eqT, eqF, neT, neF, ltT, ltF, leT, leF, nltT, nltF, nleT, nleF, nneT, nneF, List.getElem?_cons_zero, List.getElem?_cons_succ, r67_6, h1s, r67_7, hnc, d67_9, hg2, hle2, hr4, hlt2, r67_11, hw2, ba_self]
      exact ih2 (n + c - (t + 1)) _ _ (by omega) ⟨t + 1, rfl, by omega, rfl, kg2.trans (rowKept _ _ _ _)⟩
    · have hnc : (n : Int) ≤ (t : Int) := by omega
      have hsub : IntKind.i64.wrap ((t : Int) - (n : Int)) = ((t - n : Nat) : Int) := by rw [IntKind.wrap_i64]; omega
      rw [if_neg hn] at hr2
      have hr2' : (cs2.drop (o2 + t * 5)).take 5 = [.int .i64 ((t - n : Nat) : Int), .string { data := #[] }, .string { data := #[] }, .int .i64 (-mr), .slice none 0 0] := hr2
      obtain ⟨_, _, hr5, hr4⟩ := get5 hr2'
      simp (disch := first | omega | (simp only [newRow_size, Array.size_setIfInBounds, Array.size_push]; done) | (simp only [newRow_size, Array.size_setIfInBounds, Array.size_push]; omega)) [l67_12, r67_5, h1', htc, eqT, eqF, neT, neF, ltT, ltF, leT, leF, nltT, nltF, nleT, nleF, nneT, nneF, List.getElem?_cons_zero, List.getElem?_cons_succ, r67_6, h1s, r67_7, hnc, r67_8, hneg, hneg', hsub, d67_9, hg2, hle2, hr4, hr5, hlt2, r67_11, hw2, ba_self]
      exact ih2 (n + c - (t + 1)) _ _ (by omega) ⟨t + 1, rfl, by omega, rfl, kg2.trans (rowKept _ _ _ _)⟩
  · have htt : t = n + c := by omega
    subst htt
    have htc : ¬ ((n + c : Nat) : Int) < ((n + c : Nat) : Int) := by omega
    simp (disch := first | omega | (simp only [newRow_size, Array.size_setIfInBounds, Array.size_push]; done) | (simp only [newRow_size, Array.size_setIfInBounds, Array.size_push]; omega)) [l67_12, r67_5, h1', lv', htc, eqT, eqF, neT, neF, ltT, ltF, leT, leF, nltT, nltF, nleT, nleF, nneT, nneF, List.getElem?_cons_zero, List.getElem?_cons_succ]
    exact hkn _ _ kg2

set_option maxHeartbeats 4000000 in
theorem ouP_spec {F : Nat} (hF : 20000 ≤ F) {ok : Nat → Prop} {g1 : H} {e4 : Nat} {v pB : Value} {n c i : Nat} {mr : Int} (hm : 0 ≤ mr ∧ mr ≤ 2000000000) (hn' : n ≤ 24) (hc : c ≤ 64) (h1 : hget g1 e4 = some (.cells [v, .int .i64 n, .int .i64 mr] 0 true [])) (sv1 : SlR ok 5 PrC g1 v (List.replicate n (R1p mr) ++ (List.range c).map (R2p mr))) {re : Env}
    {kn kr : K} {ke : Nat → K} {Q : Value → H → Prop} (hkn : ∀ g' (e : Env), Kept g1 g' [] → Ans (kn ((1, pB) :: (3, .int .i64 i) :: e) g' []) Q) :
    Ans (evC F (cf F) ouP kn ke kr ((1, pB) :: (3, .int .i64 i) :: (7, .pointer (some ⟨e4, 0, none⟩)) :: re) g1 []) Q := by
  have lv' := sv1.len
  rw [gone_len] at lv'
  simp (disch := first | omega | (simp only [newRow_size, Array.size_setIfInBounds, Array.size_push]; done) | (simp only [newRow_size, Array.size_setIfInBounds, Array.size_push]; omega)) [ouP, r67_14]
  refine loop_rule (fun mm e g'' => ∃ (t : Nat), mm = n + c - t ∧ t ≤ n + c ∧ e = [(1, pB), (3, .int .i64 i), (7, .pointer (some ⟨e4, 0, none⟩)), (8, .int .i64 t)] ∧ Kept g1 g'' []) ?_ _ (n + c) _ _ (by omega) ⟨0, by omega, by omega, rfl, Kept.refl _ _⟩
  rintro mm e g'' again2 ⟨t, rfl, ht, rfl, kg2⟩ ih2
  have hw2 : IntKind.i64.wrap ((t : Int) + 1) = ((t + 1 : Nat) : Int) := by rw [IntKind.wrap_i64]; omega
  have hneg : IntKind.i64.wrap (0 - mr) = -mr := by rw [IntKind.wrap_i64]; omega
  have hneg' : IntKind.i64.wrap (-mr) = -mr := by rw [IntKind.wrap_i64]; omega
  have h1' := (kg2.get (lt_of_get h1) (by simp)).trans h1
  have h1s := lt_of_get h1'
  have sv2 := sv1.kc kg2.c (by simp) (fun _ _ _ q => q)
  by_cases hlt2 : t < n + c
  · obtain ⟨b2, o2, c2, cs2, est2, lv2, an2, e2, _, hg2, hle2, hr2⟩ := sv2.at' (gone_at (R1 := R1p) (R2 := R2p) (m := mr) hlt2)
    rw [gone_len] at e2
    have htc : (t : Int) < ((n + c : Nat) : Int) := by omega
    have hg2s := lt_of_get hg2
    subst e2
    by_cases hn : t < n
    · have hnc : ¬ (n : Int) ≤ (t : Int) := by omega
      rw [if_pos hn] at hr2
      obtain ⟨u1, u2, u3, u4, hr2⟩ := hr2
      obtain ⟨hr1, _, _, _⟩ := get5 hr2
      simp (disch := first | omega | (simp only [newRow_size, Array.size_setIfInBounds, Array.size_push]; done) | (simp only [newRow_size, Array.size_setIfInBounds, Array.size_push]; omega)) [l67_22, r67_15, h1', htc, eqT, eqF, neT, neF, ltT, ltF, leT, leF, nltT, nltF, nleT, nleF, nneT, nneF, List.getElem?_cons_zero, List.getElem?_cons_succ, r67_16, r67_17, hnc, r67_19, hg2, hle2, hr1, hlt2, r67_21, hw2]
      exact ih2 (n + c - (t + 1)) _ _ (by omega) ⟨t + 1, rfl, by omega, rfl, kg2⟩
    · have hnc : (n : Int) ≤ (t : Int) := by omega
      have hsub : IntKind.i64.wrap (IntKind.i64.wrap (-mr - (t : Int)) + (n : Int)) = -mr - ((t - n : Nat) : Int) := by
        rw [show IntKind.i64.wrap (-mr - (t : Int)) = -mr - (t : Int) by rw [IntKind.wrap_i64]; omega, IntKind.wrap_i64]; omega
      rw [if_neg hn] at hr2
      have hr2' : (cs2.drop (o2 + t * 5)).take 5 = [.int .i64 (-mr - ((t - n : Nat) : Int)), .int .i64 0, .string { data := #[] }, .int .i64 0, .slice none 0 0] := hr2
      obtain ⟨hr1, _, _, _⟩ := get5 hr2'
      simp (disch := first | omega | (simp only [newRow_size, Array.size_setIfInBounds, Array.size_push]; done) | (simp only [newRow_size, Array.size_setIfInBounds, Array.size_push]; omega)) [l67_22, r67_15, h1', htc, eqT, eqF, neT, neF, ltT, ltF, leT, leF, nltT, nltF, nleT, nleF, nneT, nneF, List.getElem?_cons_zero, List.getElem?_cons_succ, r67_16, r67_17, hnc, r67_18, hneg, hneg', hsub, r67_19, hg2, hle2, hr1, hlt2, r67_21, hw2]
      exact ih2 (n + c - (t + 1)) _ _ (by omega) ⟨t + 1, rfl, by omega, rfl, kg2⟩
  · have htt : t = n + c := by omega
    subst htt
    have htc : ¬ ((n + c : Nat) : Int) < ((n + c : Nat) : Int) := by omega
    simp (disch := first | omega | (simp only [newRow_size, Array.size_setIfInBounds, Array.size_push]; done) | (simp only [newRow_size, Array.size_setIfInBounds, Array.size_push]; omega)) [l67_22, r67_15, h1', lv', htc, eqT, eqF, neT, neF, ltT, ltF, leT, leF, nltT, nltF, nleT, nleF, nneT, nneF, List.getElem?_cons_zero, List.getElem?_cons_succ]
    exact hkn _ _ kg2

set_option maxHeartbeats 4000000 in
theorem outer_spec {F : Nat} (hF : 30000 ≤ F) {ok : Nat → Prop} {g : H} {L G C P T N : Value} {m nL : Nat} {bC bP bT bN : List Ent} (s : Book ok g m nL bC bP bT bN L G C P T N) (hC : SmallE (mc bC (gq 64))) (hP : SmallE (mc bP (gq 64))) (hlen : bP.length = bC.length) (ho : [L, G, C, P, T, N].all oneCell = true) :
    Ans (cf F 67 [.agg ⟨[L, G, C, P, T, N, .int .i64 m]⟩] g) fun u g' => u = .bool true ∧ Kept g g' [] := by
  obtain ⟨F, rfl⟩ : ∃ G, F = G + 1 := ⟨F - 1, by omega⟩
  rw [cf_step (a := a67) rfl rfl (by simp [a67])]
  simp (disch := first | omega | (simp only [newRow_size, Array.size_setIfInBounds, Array.size_push]; done) | (simp only [newRow_size, Array.size_setIfInBounds, Array.size_push]; omega)) [a67, r67_0]
  have k1 := rowKept g [L, G, C, P, T, N, .int .i64 m] 0 []
  have h1 : hget (Ev.newRow g [L, G, C, P, T, N, .int .i64 m] 0 []) g.size = some (.cells [L, G, C, P, T, N, .int .i64 m] 0 true []) := by simp
  generalize Ev.newRow g [L, G, C, P, T, N, .int .i64 m] 0 [] = g1 at k1 h1 ⊢
  have sc := s.cc.kc k1.c (by simp) (fun _ _ _ q => q.kc k1.c)
  have sp := s.pc.kc k1.c (by simp) (fun _ _ _ q => q.kc k1.c)
  have hl := sc.len
  obtain ⟨c1, c2⟩ := hC
  obtain ⟨p1, p2⟩ := hP
  have hle : (mc bP (gq 64)).length = (mc bC (gq 64)).length := by rw [mc_len, mc_len, hlen]
  generalize mc bC (gq 64) = es at sc c1 c2 hl hle
  generalize mc bP (gq 64) = ps at sp p1 p2 hle
  simp (disch := first | omega | (simp only [newRow_size, Array.size_setIfInBounds, Array.size_push]; done) | (simp only [newRow_size, Array.size_setIfInBounds, Array.size_push]; omega)) [r67_1]
  refine loop_rule (fun mm e g' => ∃ (i : Nat), mm = es.length - i ∧ i ≤ es.length ∧ e = [(1, .pointer (some ⟨g.size, 0, none⟩)), (3, .int .i64 i)] ∧ Kept g1 g' []) ?_ _ es.length _ _ (by omega) ⟨0, by omega, by omega, rfl, Kept.refl _ _⟩
  rintro mm e g' again ⟨i, rfl, hi, rfl, kg⟩ ih
  have hw : IntKind.i64.wrap ((i : Int) + 1) = ((i + 1 : Nat) : Int) := by rw [IntKind.wrap_i64]; omega
  have hB' := (kg.get (lt_of_get h1) (by simp)).trans h1
  have hBs := lt_of_get hB'
  by_cases hlt : i < es.length
  · obtain ⟨x, hx⟩ : ∃ x, es[i]? = some x := ⟨_, List.getElem?_eq_getElem hlt⟩
    obtain ⟨y, hy⟩ : ∃ y, ps[i]? = some y := ⟨_, List.getElem?_eq_getElem (by omega)⟩
    obtain ⟨m1, m2, m3, m4⟩ := c2 x (List.mem_of_getElem? hx)
    obtain ⟨q1, q2, q3, q4⟩ := p2 y (List.mem_of_getElem? hy)
    have hic : (i : Int) < (es.length : Int) := by omega
    have sc' := sc.kc kg.c (by simp) (fun _ _ _ q => q.kc kg.c)
    have sp' := sp.kc kg.c (by simp) (fun _ _ _ q => q.kc kg.c)
    obtain ⟨b, o, c, cs, est, lv, an, rfl, _, hg, hle1, v, hrow, sv⟩ := sc'.at' hx
    have ov := sv.one
    simp only [oneCell] at ov
    have hgs := lt_of_get hg
    simp (disch := first | omega | (simp only [newRow_size, Array.size_setIfInBounds, Array.size_push]; done) | (simp only [newRow_size, Array.size_setIfInBounds, Array.size_push]; omega)) [l67_24_cut, r67_2, hB', hic, eqT, eqF, neT, neF, ltT, ltF, leT, leF, nltT, nltF, nleT, nleF, nneT, nneF, List.getElem?_cons_zero, List.getElem?_cons_succ, r67_3, hg, hle1, hrow, hlt, ov]
    have k2 := rowKept g' [v, .int .i64 x.1.n, .int .i64 x.1.mr] 0 []
    have h2 : hget (Ev.newRow g' [v, .int .i64 x.1.n, .int .i64 x.1.mr] 0 []) g'.size = some (.cells [v, .int .i64 x.1.n, .int .i64 x.1.mr] 0 true []) := by simp
    generalize Ev.newRow g' [v, .int .i64 x.1.n, .int .i64 x.1.mr] 0 [] = g2 at k2 h2 ⊢
    refine ouC_spec (F := F) (by omega) ⟨m1, m2⟩ m3 m4 h2 (sv.kc k2.c (by simp) (fun _ _ _ q => q)) ?_
    intro g3 e3 k3
    have k23 := k2.trans k3
    have sp3 := sp'.kc k23.c (by simp) (fun _ _ _ q => q.kc k23.c)
    obtain ⟨b', o', c', cs', est', lv', an', rfl, _, hg', hle1', v', hrow', sv'⟩ := sp3.at' hy
    have ov' := sv'.one
    simp only [oneCell] at ov'
    have hgs' := lt_of_get hg'
    have hlt' : i < ps.length := by omega
    have hB3 := (k23.get (lt_of_get hB') (by simp)).trans hB'
    simp (disch := first | omega | (simp only [newRow_size, Array.size_setIfInBounds, Array.size_push]; done) | (simp only [newRow_size, Array.size_setIfInBounds, Array.size_push]; omega)) [r67_13, hB3, eqT, eqF, neT, neF, ltT, ltF, leT, leF, nltT, nltF, nleT, nleF, nneT, nneF, List.getElem?_cons_zero, List.getElem?_cons_succ, hg', hle1', hrow', hlt', ov']
    have k4 := rowKept g3 [v', .int .i64 y.1.n, .int .i64 y.1.mr] 0 []
    have h4 : hget (Ev.newRow g3 [v', .int .i64 y.1.n, .int .i64 y.1.mr] 0 []) g3.size = some (.cells [v', .int .i64 y.1.n, .int .i64 y.1.mr] 0 true []) := by simp
    generalize Ev.newRow g3 [v', .int .i64 y.1.n, .int .i64 y.1.mr] 0 [] = g4 at k4 h4 ⊢
    refine ouP_spec (F := F) (by omega) ⟨q1, q2⟩ q3 q4 h4 (sv'.kc k4.c (by simp) (fun _ _ _ q => q)) ?_
    intro g5 e5 k5
    simp (disch := first | omega | (simp only [newRow_size, Array.size_setIfInBounds, Array.size_push]; done) | (simp only [newRow_size, Array.size_setIfInBounds, Array.size_push]; omega)) [r67_23, hw]
    exact ih (es.length - (i + 1)) _ _ (by omega) ⟨i + 1, rfl, by omega, rfl, kg.trans (k23.trans (k4.trans k5))⟩
  · have hii : i = es.length := by omega
    subst hii
    have hic : ¬ (es.length : Int) < (es.length : Int) := by omega
    simp (disch := first | omega | (simp only [newRow_size, Array.size_setIfInBounds, Array.size_push]; done) | (simp only [newRow_size, Array.size_setIfInBounds, Array.size_push]; omega)) [l67_24_cut, r67_2, hB', hl, hic, eqT, eqF, neT, neF, ltT, ltF, leT, leF, nltT, nltF, nleT, nleF, nneT, nneF, List.getElem?_cons_zero, List.getElem?_cons_succ, r67_25]
    exact Ans.of ⟨rfl, k1.trans kg⟩

end Go.Proofs.Ytkkagpchcefidaa

/- QueueOwn: still. -/
set_option linter.unusedSimpArgs false
set_option linter.unusedVariables false
namespace Go.Proofs.Ytkkagpchcefidaa
open Go.Ev

theorem get5b {cs : List Value} {n : Nat} {a b c d e : Value} (h : (cs.drop n).take 5 = [a, b, c, d, e]) : (cs.drop (n + 1)).take 1 = [b] := by
  have h3 := congrArg (List.drop 1) h
  rw [List.drop_take, List.drop_drop] at h3
  have h6 := congrArg (List.take 1) h3
  rw [List.take_take] at h6
  simpa using h6

set_option maxHeartbeats 4000000 in
theorem still_spec {F : Nat} (hF : 40000 ≤ F) {ok : Nat → Prop} {g : H} {L G C P T N : Value} {m nL : Nat} {bC bP bT bN : List Ent} (s : Book ok g m nL bC bP bT bN L G C P T N) (hC : SmallE (mc bC (gq 64))) (hP : SmallE (mc bP (gq 64))) (hT : SmallE (mc bT (gq 64))) (hN : SmallE (mc bN (gq 64))) (hlen : bP.length = bC.length) (hnl : nL ≤ 32) (ho : [L, G, C, P, T, N].all oneCell = true) :
    Ans (cf F 56 [.agg ⟨[L, G, C, P, T, N, .int .i64 m]⟩] g) fun u g' => u = .bool true ∧ Kept g g' [] := by
  obtain ⟨F, rfl⟩ : ∃ G, F = G + 1 := ⟨F - 1, by omega⟩
  rw [cf_step (a := a56) rfl rfl (by simp [a56])]
  simp (disch := first | omega | (simp only [newRow_size, Array.size_setIfInBounds, Array.size_push]; done) | (simp only [newRow_size, Array.size_setIfInBounds, Array.size_push]; omega)) [a56, r56_0]
  have k1 := rowKept g [L, G, C, P, T, N, .int .i64 m] 0 []
  have h1 : hget (Ev.newRow g [L, G, C, P, T, N, .int .i64 m] 0 []) g.size = some (.cells [L, G, C, P, T, N, .int .i64 m] 0 true []) := by simp
  generalize Ev.newRow g [L, G, C, P, T, N, .int .i64 m] 0 [] = g1 at k1 h1 ⊢
  have bk : ∀ {g' : H}, Kept g g' [] → Book ok g' m nL bC bP bT bN L G C P T N := fun k => ⟨s.lc.kc k.c (by simp) (fun _ _ _ q => q), s.gc.kc k.c (by simp) (fun _ _ _ q => q), s.cc.kc k.c (by simp) (fun _ _ _ q => q.kc k.c), s.pc.kc k.c (by simp) (fun _ _ _ q => q.kc k.c), s.tc.kc k.c (by simp) (fun _ _ _ q => q.kc k.c), s.nc.kc k.c (by simp) (fun _ _ _ q => q.kc k.c)⟩
  have h1s := lt_of_get h1
  have ls := lists_spec (F := F) (by omega) (bk k1) hT hN ho
  simp (disch := first | omega | (simp only [newRow_size, Array.size_setIfInBounds, Array.size_push]; done) | (simp only [newRow_size, Array.size_setIfInBounds, Array.size_push]; omega)) [r56_1, h1, eqT, eqF, neT, neF, ltT, ltF, leT, leF, nltT, nltF, nleT, nleF, nneT, nneF, List.getElem?_cons_zero, List.getElem?_cons_succ, callV_fn]
  refine Ans.next ls ?_
  rintro u2 g2 ⟨rfl, k2⟩
  have h2 := (k2.get h1s (by simp)).trans h1
  have os := outer_spec (F := F) (by omega) (bk (k1.trans k2)) hC hP hlen ho
  simp (disch := first | omega | (simp only [newRow_size, Array.size_setIfInBounds, Array.size_push]; done) | (simp only [newRow_size, Array.size_setIfInBounds, Array.size_push]; omega)) [h2, eqT, eqF, neT, neF, ltT, ltF, leT, leF, nltT, nltF, nleT, nleF, nneT, nneF, List.getElem?_cons_zero, List.getElem?_cons_succ, callV_fn]
  refine Ans.next os ?_
  rintro u3 g3 ⟨rfl, k3⟩
  have k13 := k1.trans (k2.trans k3)
  have h3 := (k3.get (lt_of_get h2) (by simp)).trans h2
  have h3s := lt_of_get h3
  have b3 := bk k13
  have lL := b3.lc.len
  rw [List.length_replicate] at lL
  have lG := b3.gc.len
  rw [gone_len] at lG
  simp (disch := first | omega | (simp only [newRow_size, Array.size_setIfInBounds, Array.size_push]; done) | (simp only [newRow_size, Array.size_setIfInBounds, Array.size_push]; omega)) [r56_3, h3, lL, eqT, eqF, neT, neF, ltT, ltF, leT, leF, nltT, nltF, nleT, nleF, nneT, nneF, List.getElem?_cons_zero, List.getElem?_cons_succ, r56_4]
  refine loop_rule (fun mm e g' => ∃ (t : Nat), mm = nL + 64 - t ∧ t ≤ nL + 64 ∧ e = [(1, .pointer (some ⟨g.size, 0, none⟩)), (3, .int .i64 nL), (4, .int .i64 t)] ∧ Kept g3 g' []) ?_ _ (nL + 64) _ _ (by omega) ⟨0, by omega, by omega, rfl, Kept.refl _ _⟩
  rintro mm e g' again ⟨t, rfl, ht, rfl, kg⟩ ih
  have hw : IntKind.i64.wrap ((t : Int) + 1) = ((t + 1 : Nat) : Int) := by rw [IntKind.wrap_i64]; omega
  have h4 := (kg.get h3s (by simp)).trans h3
  have h4s := lt_of_get h4
  have b4 := bk (k13.trans kg)
  by_cases hlt : t < nL + 64
  · obtain ⟨b, o, c, cs, est, lv, an, e, _, hg, hle, hr⟩ := b4.gc.at' (gone_at (R1 := R1i) (R2 := R2i) (m := (m : Int)) hlt)
    rw [gone_len] at e
    have htc : (t : Int) < ((nL + 64 : Nat) : Int) := by omega
    have hgs := lt_of_get hg
    by_cases hn : t < nL
    · have hnc : (t : Int) < (nL : Int) := by omega
      rw [if_pos hn] at hr
      obtain ⟨u1, u2, u3, u4, hr⟩ := hr
      obtain ⟨hr1, _, _, _⟩ := get5 hr
      obtain ⟨b', o', c', cs', est', lv', an', e', _, hg', hle', hr'⟩ := b4.lc.at' (i := t) (x := R1i m) (by rw [List.getElem?_replicate, if_pos hn])
      rw [List.length_replicate] at e'
      obtain ⟨w1, w2, w3, w4, hr'⟩ := hr'
      obtain ⟨hr1', _, _, _⟩ := get5 hr'
      have hgs' := lt_of_get hg'
      subst e e'
      simp (disch := first | omega | (simp only [newRow_size, Array.size_setIfInBounds, Array.size_push]; done) | (simp only [newRow_size, Array.size_setIfInBounds, Array.size_push]; omega)) [l56_9, r56_5, h4, htc, eqT, eqF, neT, neF, ltT, ltF, leT, leF, nltT, nltF, nleT, nleF, nneT, nneF, List.getElem?_cons_zero, List.getElem?_cons_succ, d56_6, hg, hle, hr1, hlt, hnc, hn, hg', hle', hr1', r56_8, hw]
      exact ih (nL + 64 - (t + 1)) _ _ (by omega) ⟨t + 1, rfl, by omega, rfl, kg⟩
    · have hnc : ¬ (t : Int) < (nL : Int) := by omega
      have hnc2 : (nL : Int) ≤ (t : Int) := by omega
      have hsub : IntKind.i64.wrap (IntKind.i64.wrap ((t : Int) - (nL : Int)) + 1) = ((t - nL : Nat) : Int) + 1 := by
        rw [show IntKind.i64.wrap ((t : Int) - (nL : Int)) = (t : Int) - (nL : Int) by rw [IntKind.wrap_i64]; omega, IntKind.wrap_i64]; omega
      rw [if_neg hn] at hr
      have hr5 : (cs.drop (o + t * 5)).take 5 = [.int .i64 m, .int .i64 (((t - nL : Nat) : Int) + 1), .bool false, .slice none 0 0, .slice none 0 0] := hr
      obtain ⟨hr1, _, _, _⟩ := get5 hr5
      have hr2 := get5b hr5
      subst e
      simp (disch := first | omega | (simp only [newRow_size, Array.size_setIfInBounds, Array.size_push]; done) | (simp only [newRow_size, Array.size_setIfInBounds, Array.size_push]; omega)) [l56_9, r56_5, h4, htc, eqT, eqF, neT, neF, ltT, ltF, leT, leF, nltT, nltF, nleT, nleF, nneT, nneF, List.getElem?_cons_zero, List.getElem?_cons_succ, d56_6, hg, hle, hr1, hr2, hlt, hnc, hnc2, hsub, r56_8, hw]
      exact ih (nL + 64 - (t + 1)) _ _ (by omega) ⟨t + 1, rfl, by omega, rfl, kg⟩
  · have htt : t = nL + 64 := by omega
    subst htt
    have htc : ¬ ((nL + 64 : Nat) : Int) < ((nL + 64 : Nat) : Int) := by omega
    simp (disch := first | omega | (simp only [newRow_size, Array.size_setIfInBounds, Array.size_push]; done) | (simp only [newRow_size, Array.size_setIfInBounds, Array.size_push]; omega)) [l56_9, r56_5, h4, lG, htc, eqT, eqF, neT, neF, ltT, ltF, leT, leF, nltT, nltF, nleT, nleF, nneT, nneF, List.getElem?_cons_zero, List.getElem?_cons_succ, r56_10]
    exact Ans.of ⟨rfl, k13.trans kg⟩

end Go.Proofs.Ytkkagpchcefidaa

/- QueueOwn: few. -/
set_option linter.unusedSimpArgs false
set_option linter.unusedVariables false
namespace Go.Ev

theorem SlR.take {α : Type} {ok : Nat → Prop} {w : Nat} {R : H → List Value → α → Prop} {h : H} {v : Value} {xs : List α} (s : SlR ok w R h v xs) {n : Nat} (hn : n ≤ xs.length) (h0 : 0 < xs.length) : ∃ v', slcV w v none (some (.int .i64 n)) = some v' ∧ SlR ok w R h v' (xs.take n) := by
  obtain ⟨b, o, c, cs, e, hc, hk, hb, hi⟩ := s.row h0
  have hl : (xs.take n).length = n := by rw [List.length_take]; omega
  refine ⟨.slice (some ⟨b, o, none⟩) n c, ?_, .inr ⟨b, o, c, cs, by rw [hl], by omega, hk, hb, fun i x hx => ?_⟩⟩
  · subst e
    have h1 : ¬ ((n : Int) < 0) := by omega
    have h2 : n ≤ c := by omega
    simp [slcV, h2]
  · have hin : i < n := by
      have := (List.getElem?_eq_some_iff.1 hx).1
      omega
    rw [List.getElem?_take, if_pos hin] at hx
    exact hi i x hx

end Go.Ev
namespace Go.Proofs.Ytkkagpchcefidaa
open Go.Ev

def fewT (t : Tgd) : Tgd := { t with tags := t.tags.take 24 }
def fewP (p : Prt) : Prt := { p with nodes := p.nodes.take 24 }
def fewM (s : Stp) : Stp := { s with chgs := (s.chgs.take 24).map fewT, prts := (s.prts.take 24).map fewP }

def fwC : ACode := (.seq (.region r54_2 [1, 2, 3, 4]) (.block 0 (.loop [1, 2, 3, 4] l54_9)))
def fwP : ACode := (.seq (.region r54_11 [1, 2, 3, 6, 7]) (.block 2 (.loop [1, 2, 3, 6, 7] l54_18)))

/-- The area a few'd step lies in. -/
abbrev orNew (ok : Nat → Prop) (N : Nat) : Nat → Prop := fun c => ok c ∨ N ≤ c

theorem take_map_snoc {α β : Type} (f : α → β) {l : List α} {i : Nat} {x : α} (hx : l[i]? = some x) : (l.take (i + 1)).map f = (l.take i).map f ++ [f x] := by
  rw [List.take_add_one, hx]; simp

set_option maxHeartbeats 4000000 in
theorem fwC_spec {F : Nat} (hF : 1000 ≤ F) {ok : Nat → Prop} {g : H} {B : Nat} {v2 v w c0 c1 c2 : Value} {l : List Tgd} (hB : hget g B = some (.cells [c0, c1, c2, v, w] 0 true [])) (s : SlR ok 5 (TgdC ok) g v l) {re : Env}
    {kn kr : K} {ke : Nat → K} {Q : Value → H → Prop}
    (hkn : ∀ g' v3 (e : Env), Kept g g' [] → SlR (orNew ok g.size) 5 (TgdC (orNew ok g.size)) g' v3 ((l.take 24).map fewT) → Ans (kn ((1, .pointer (some ⟨B, 0, none⟩)) :: (2, v2) :: (3, v3) :: e) g' []) Q) :
    Ans (evC F (cf F) fwC kn ke kr ((1, .pointer (some ⟨B, 0, none⟩)) :: (2, v2) :: (3, .slice none 0 0) :: re) g []) Q := by
  have hl := s.len
  obtain ⟨M, hM⟩ : ∃ M, M = min l.length 24 := ⟨_, rfl⟩
  simp (disch := first | omega | (simp only [newRow_size, Array.size_setIfInBounds, Array.size_push]; done) | (simp only [newRow_size, Array.size_setIfInBounds, Array.size_push]; omega)) [fwC, r54_2]
  refine loop_rule (fun mm e g' => ∃ (i : Nat) (u : Value), mm = M - i ∧ i ≤ M ∧ e = [(1, .pointer (some ⟨B, 0, none⟩)), (2, v2), (3, u), (4, .int .i64 i)] ∧ Kept g g' [] ∧ Bld (since g.size) 5 (TgdC (orNew ok g.size)) g' u ((l.take i).map fewT)) ?_ _ M _ _ (by omega) ⟨0, _, by omega, by omega, rfl, Kept.refl _ _, Bld.nil _ _ _ _⟩
  rintro mm e g' again ⟨i, u, rfl, hi, rfl, kg, bu⟩ ih
  have hw : IntKind.i64.wrap ((i : Int) + 1) = ((i + 1 : Nat) : Int) := by rw [IntKind.wrap_i64]; omega
  have hB' := (kg.get (lt_of_get hB) (by simp)).trans hB
  have hBs := lt_of_get hB'
  have yg := kg.1
  by_cases hlt : i < M
  · obtain ⟨x, hx⟩ : ∃ x, l[i]? = some x := ⟨_, List.getElem?_eq_getElem (by omega)⟩
    have hic : (i : Int) < (l.length : Int) := by omega
    have hic2 : (i : Int) < 24 := by omega
    have hil : i < l.length := by omega
    have sg := SlTgd.imp s (ok' := ok) (fun _ _ q => q) (keep_of kg.c (by simp))
    obtain ⟨b, o, c, cs, es, lv, an, rfl, hk, hg, hle, vt, hat, st⟩ := sg.at' hx
    have hto := st.one
    have hlt' := st.len
    simp only [oneCell] at hto
    have hgs := lt_of_get hg
    -- what is put behind, once the element's cells are known
    have fin : ∀ (vt' : Value) (g1 : H), Kept g g1 [] → Kept g' g1 [] → SlR ok 1 IntC g1 vt' (x.tags.take 24) → Ans (appendTo (Ev.newRow g1 [.int .i64 x.chg.kind, .string x.chg.place, .string x.chg.data, .int .i64 x.chg.ver, vt'] 5 []) 5 72 u 1 [.int .i64 x.chg.kind, .string x.chg.place, .string x.chg.data, .int .i64 x.chg.ver, vt'])
        fun u' g2 => Kept g g2 [] ∧ Bld (since g.size) 5 (TgdC (orNew ok g.size)) g2 u' ((l.take (i + 1)).map fewT) := by
      intro vt' g1 k1 k2 st'
      have kE := rowKept g1 [.int .i64 x.chg.kind, .string x.chg.place, .string x.chg.data, .int .i64 x.chg.ver, vt'] 5 []
      have bE : Bld (since g.size) 5 (TgdC (orNew ok g.size)) (Ev.newRow g1 [.int .i64 x.chg.kind, .string x.chg.place, .string x.chg.data, .int .i64 x.chg.ver, vt'] 5 []) u ((l.take i).map fewT) :=
        bu.kept (h' := Ev.newRow g1 [.int .i64 x.chg.kind, .string x.chg.place, .string x.chg.data, .int .i64 x.chg.ver, vt'] 5 []) (L := []) (k2.trans kE) (by simp) (fun cs t _ q => TgdC.imp q (fun _ _ q => q) (keep_of (k2.trans kE).c (by simp)))
      have y1 := k1.1
      refine (bE.app (x := fewT x) (bytes := 72) rfl (by simp; omega) (by show g.size ≤ _; simp; omega) (fun h' k cs y _ q => TgdC.imp q (fun _ _ q => q) (keep_of k (by simp))) (fun h' k => ⟨vt', rfl, ?_⟩)).mono ?_
      · exact SlInt.imp st' (fun _ _ q => .inl q) (keep_of (kE.c.trans k) (by simp))
      · rintro u' h3 ⟨b3, k3, y3, g3, _⟩
        rw [take_map_snoc fewT hx]
        refine ⟨⟨by have := kE.1; have := k3.1; omega, fun c hc _ => ?_⟩, b3⟩
        exact (g3 c (by have := kE.1; omega) (bE.ne (by show ¬ g.size ≤ c; omega))).trans ((kE.get (by omega) (by simp)).trans (k1.get hc (by simp)))
    by_cases ht : 24 < x.tags.length
    · have htc : (24 : Int) < (x.tags.length : Int) := by omega
      obtain ⟨vt', ev', st'⟩ := st.take (n := 24) (by omega) (by omega)
      have ev' : slcV 1 vt none (some (.int .i64 24)) = some vt' := ev'
      have hto2 := st'.one
      have hvc2 := st'.vc
      simp only [oneCell] at hto2
      simp only [vcells] at hvc2
      simp (disch := first | omega | (simp only [newRow_size, Array.size_setIfInBounds, Array.size_push]; done) | (simp only [newRow_size, Array.size_setIfInBounds, Array.size_push]; omega)) [l54_9, r54_3, hB', hl, hic, hic2, eqT, eqF, neT, neF, ltT, ltF, leT, leF, nltT, nltF, nleT, nleF, nneT, nneF, List.getElem?_cons_zero, List.getElem?_cons_succ, r54_4, hg, hle, hat, hto, hil, r54_5, hlt', htc, r54_6, ev', hto2, hvc2, r54_7, srcOf]
      have k1 := rowKept g' [.int .i64 x.chg.kind, .string x.chg.place, .string x.chg.data, .int .i64 x.chg.ver, vt'] 0 []
      generalize Ev.newRow g' [.int .i64 x.chg.kind, .string x.chg.place, .string x.chg.data, .int .i64 x.chg.ver, vt'] 0 [] = g1 at k1 ⊢
      refine Ans.next (fin vt' g1 (kg.trans k1) k1 (SlInt.imp st' (fun _ _ q => q) (keep_of k1.c (by simp)))) ?_
      rintro u' g2 ⟨k2, b2⟩
      simp (disch := first | omega | (simp only [newRow_size, Array.size_setIfInBounds, Array.size_push]; done) | (simp only [newRow_size, Array.size_setIfInBounds, Array.size_push]; omega)) [r54_8, hw]
      exact ih (M - (i + 1)) _ _ (by omega) ⟨i + 1, u', rfl, by omega, rfl, k2, b2⟩
    · have htc : ¬ (24 : Int) < (x.tags.length : Int) := by omega
      simp (disch := first | omega | (simp only [newRow_size, Array.size_setIfInBounds, Array.size_push]; done) | (simp only [newRow_size, Array.size_setIfInBounds, Array.size_push]; omega)) [l54_9, r54_3, hB', hl, hic, hic2, eqT, eqF, neT, neF, ltT, ltF, leT, leF, nltT, nltF, nleT, nleF, nneT, nneF, List.getElem?_cons_zero, List.getElem?_cons_succ, r54_4, hg, hle, hat, hto, hil, r54_5, hlt', htc, r54_7, srcOf]
      have k1 := rowKept g' [.int .i64 x.chg.kind, .string x.chg.place, .string x.chg.data, .int .i64 x.chg.ver, vt] 0 []
      generalize Ev.newRow g' [.int .i64 x.chg.kind, .string x.chg.place, .string x.chg.data, .int .i64 x.chg.ver, vt] 0 [] = g1 at k1 ⊢
      refine Ans.next (fin vt g1 (kg.trans k1) k1 (by rw [List.take_of_length_le (by omega)]; exact SlInt.imp st (fun _ _ q => q) (keep_of k1.c (by simp)))) ?_
      rintro u' g2 ⟨k2, b2⟩
      simp (disch := first | omega | (simp only [newRow_size, Array.size_setIfInBounds, Array.size_push]; done) | (simp only [newRow_size, Array.size_setIfInBounds, Array.size_push]; omega)) [r54_8, hw]
      exact ih (M - (i + 1)) _ _ (by omega) ⟨i + 1, u', rfl, by omega, rfl, k2, b2⟩
  · have hiM : i = M := by omega
    subst hiM
    have hm : (l.take i) = l.take 24 := by
      rcases Nat.le_total l.length 24 with h | h
      · rw [List.take_of_length_le h, List.take_of_length_le (by omega)]
      · rw [hM, Nat.min_eq_right h]
    rw [hm] at bu
    have bs := bu.sl.imp (ok' := orNew ok g.size) (fun c _ q => .inr q) (fun _ _ _ q => q) (fun _ _ _ q => q)
    by_cases c1 : i < l.length
    · have h1 : (i : Int) < (l.length : Int) := by omega
      have h2 : ¬ (i : Int) < 24 := by omega
      simp (disch := first | omega | (simp only [newRow_size, Array.size_setIfInBounds, Array.size_push]; done) | (simp only [newRow_size, Array.size_setIfInBounds, Array.size_push]; omega)) [l54_9, r54_3, hB', hl, h1, h2, eqT, eqF, neT, neF, ltT, ltF, leT, leF, nltT, nltF, nleT, nleF, nneT, nneF, List.getElem?_cons_zero, List.getElem?_cons_succ]
      exact hkn g' u _ kg bs
    · have h1 : ¬ (i : Int) < (l.length : Int) := by omega
      simp (disch := first | omega | (simp only [newRow_size, Array.size_setIfInBounds, Array.size_push]; done) | (simp only [newRow_size, Array.size_setIfInBounds, Array.size_push]; omega)) [l54_9, r54_3, hB', hl, h1, eqT, eqF, neT, neF, ltT, ltF, leT, leF, nltT, nltF, nleT, nleF, nneT, nneF, List.getElem?_cons_zero, List.getElem?_cons_succ]
      exact hkn g' u _ kg bs

set_option maxHeartbeats 4000000 in
theorem fwP_spec {F : Nat} (hF : 1000 ≤ F) {ok : Nat → Prop} {g : H} {B : Nat} {v2 v3 v w c0 c1 c2 : Value} {l : List Prt} (hB : hget g B = some (.cells [c0, c1, c2, w, v] 0 true [])) (s : SlR ok 5 (PrtC ok) g v l) {re : Env}
    {kn kr : K} {ke : Nat → K} {Q : Value → H → Prop}
    (hkn : ∀ g' v6 (e : Env), Kept g g' [] → SlR (orNew ok g.size) 5 (PrtC (orNew ok g.size)) g' v6 ((l.take 24).map fewP) → Ans (kn ((1, .pointer (some ⟨B, 0, none⟩)) :: (2, v2) :: (3, v3) :: (6, v6) :: e) g' []) Q) :
    Ans (evC F (cf F) fwP kn ke kr ((1, .pointer (some ⟨B, 0, none⟩)) :: (2, v2) :: (3, v3) :: (6, .slice none 0 0) :: re) g []) Q := by
  have hl := s.len
  obtain ⟨M, hM⟩ : ∃ M, M = min l.length 24 := ⟨_, rfl⟩
  simp (disch := first | omega | (simp only [newRow_size, Array.size_setIfInBounds, Array.size_push]; done) | (simp only [newRow_size, Array.size_setIfInBounds, Array.size_push]; omega)) [fwP, r54_11]
  refine loop_rule (fun mm e g' => ∃ (i : Nat) (u : Value), mm = M - i ∧ i ≤ M ∧ e = [(1, .pointer (some ⟨B, 0, none⟩)), (2, v2), (3, v3), (6, u), (7, .int .i64 i)] ∧ Kept g g' [] ∧ Bld (since g.size) 5 (PrtC (orNew ok g.size)) g' u ((l.take i).map fewP)) ?_ _ M _ _ (by omega) ⟨0, _, by omega, by omega, rfl, Kept.refl _ _, Bld.nil _ _ _ _⟩
  rintro mm e g' again ⟨i, u, rfl, hi, rfl, kg, bu⟩ ih
  have hw : IntKind.i64.wrap ((i : Int) + 1) = ((i + 1 : Nat) : Int) := by rw [IntKind.wrap_i64]; omega
  have hB' := (kg.get (lt_of_get hB) (by simp)).trans hB
  have hBs := lt_of_get hB'
  have yg := kg.1
  by_cases hlt : i < M
  · obtain ⟨x, hx⟩ : ∃ x, l[i]? = some x := ⟨_, List.getElem?_eq_getElem (by omega)⟩
    have hic : (i : Int) < (l.length : Int) := by omega
    have hic2 : (i : Int) < 24 := by omega
    have hil : i < l.length := by omega
    have sg := SlPrt.imp s (ok' := ok) (fun _ _ q => q) (keep_of kg.c (by simp))
    obtain ⟨b, o, c, cs, es, lv, an, rfl, hk, hg, hle, vt, hat, st⟩ := sg.at' hx
    have hto := st.one
    have hlt' := st.len
    simp only [oneCell] at hto
    have hgs := lt_of_get hg
    -- what is put behind, once the element's cells are known
    have fin : ∀ (vt' : Value) (g1 : H), Kept g g1 [] → Kept g' g1 [] → SlR ok 3 SeenC g1 vt' (x.nodes.take 24) → Ans (appendTo (Ev.newRow g1 [.int .i64 x.id, .int .i64 x.stamp, .string x.place, .int .i64 x.kind, vt'] 5 []) 5 64 u 1 [.int .i64 x.id, .int .i64 x.stamp, .string x.place, .int .i64 x.kind, vt'])
        fun u' g2 => Kept g g2 [] ∧ Bld (since g.size) 5 (PrtC (orNew ok g.size)) g2 u' ((l.take (i + 1)).map fewP) := by
      intro vt' g1 k1 k2 st'
      have kE := rowKept g1 [.int .i64 x.id, .int .i64 x.stamp, .string x.place, .int .i64 x.kind, vt'] 5 []
      have bE : Bld (since g.size) 5 (PrtC (orNew ok g.size)) (Ev.newRow g1 [.int .i64 x.id, .int .i64 x.stamp, .string x.place, .int .i64 x.kind, vt'] 5 []) u ((l.take i).map fewP) :=
        bu.kept (h' := Ev.newRow g1 [.int .i64 x.id, .int .i64 x.stamp, .string x.place, .int .i64 x.kind, vt'] 5 []) (L := []) (k2.trans kE) (by simp) (fun cs t _ q => PrtC.imp q (fun _ _ q => q) (keep_of (k2.trans kE).c (by simp)))
      have y1 := k1.1
      refine (bE.app (x := fewP x) (bytes := 64) rfl (by simp; omega) (by show g.size ≤ _; simp; omega) (fun h' k cs y _ q => PrtC.imp q (fun _ _ q => q) (keep_of k (by simp))) (fun h' k => ⟨vt', rfl, ?_⟩)).mono ?_
      · exact SlSeen.imp st' (fun _ _ q => .inl q) (keep_of (kE.c.trans k) (by simp))
      · rintro u' h3 ⟨b3, k3, y3, g3, _⟩
        rw [take_map_snoc fewP hx]
        refine ⟨⟨by have := kE.1; have := k3.1; omega, fun c hc _ => ?_⟩, b3⟩
        exact (g3 c (by have := kE.1; omega) (bE.ne (by show ¬ g.size ≤ c; omega))).trans ((kE.get (by omega) (by simp)).trans (k1.get hc (by simp)))
    by_cases ht : 24 < x.nodes.length
    · have htc : (24 : Int) < (x.nodes.length : Int) := by omega
      obtain ⟨vt', ev', st'⟩ := st.take (n := 24) (by omega) (by omega)
      have ev' : slcV 3 vt none (some (.int .i64 24)) = some vt' := ev'
      have hto2 := st'.one
      have hvc2 := st'.vc
      simp only [oneCell] at hto2
      simp only [vcells] at hvc2
      simp (disch := first | omega | (simp only [newRow_size, Array.size_setIfInBounds, Array.size_push]; done) | (simp only [newRow_size, Array.size_setIfInBounds, Array.size_push]; omega)) [l54_18, r54_12, hB', hl, hic, hic2, eqT, eqF, neT, neF, ltT, ltF, leT, leF, nltT, nltF, nleT, nleF, nneT, nneF, List.getElem?_cons_zero, List.getElem?_cons_succ, r54_13, hg, hle, hat, hto, hil, r54_14, hlt', htc, r54_15, ev', hto2, hvc2, r54_16, srcOf]
      have k1 := rowKept g' [.int .i64 x.id, .int .i64 x.stamp, .string x.place, .int .i64 x.kind, vt'] 0 []
      generalize Ev.newRow g' [.int .i64 x.id, .int .i64 x.stamp, .string x.place, .int .i64 x.kind, vt'] 0 [] = g1 at k1 ⊢
      refine Ans.next (fin vt' g1 (kg.trans k1) k1 (SlSeen.imp st' (fun _ _ q => q) (keep_of k1.c (by simp)))) ?_
      rintro u' g2 ⟨k2, b2⟩
      simp (disch := first | omega | (simp only [newRow_size, Array.size_setIfInBounds, Array.size_push]; done) | (simp only [newRow_size, Array.size_setIfInBounds, Array.size_push]; omega)) [r54_17, hw]
      exact ih (M - (i + 1)) _ _ (by omega) ⟨i + 1, u', rfl, by omega, rfl, k2, b2⟩
    · have htc : ¬ (24 : Int) < (x.nodes.length : Int) := by omega
      simp (disch := first | omega | (simp only [newRow_size, Array.size_setIfInBounds, Array.size_push]; done) | (simp only [newRow_size, Array.size_setIfInBounds, Array.size_push]; omega)) [l54_18, r54_12, hB', hl, hic, hic2, eqT, eqF, neT, neF, ltT, ltF, leT, leF, nltT, nltF, nleT, nleF, nneT, nneF, List.getElem?_cons_zero, List.getElem?_cons_succ, r54_13, hg, hle, hat, hto, hil, r54_14, hlt', htc, r54_16, srcOf]
      have k1 := rowKept g' [.int .i64 x.id, .int .i64 x.stamp, .string x.place, .int .i64 x.kind, vt] 0 []
      generalize Ev.newRow g' [.int .i64 x.id, .int .i64 x.stamp, .string x.place, .int .i64 x.kind, vt] 0 [] = g1 at k1 ⊢
      refine Ans.next (fin vt g1 (kg.trans k1) k1 (by rw [List.take_of_length_le (by omega)]; exact SlSeen.imp st (fun _ _ q => q) (keep_of k1.c (by simp)))) ?_
      rintro u' g2 ⟨k2, b2⟩
      simp (disch := first | omega | (simp only [newRow_size, Array.size_setIfInBounds, Array.size_push]; done) | (simp only [newRow_size, Array.size_setIfInBounds, Array.size_push]; omega)) [r54_17, hw]
      exact ih (M - (i + 1)) _ _ (by omega) ⟨i + 1, u', rfl, by omega, rfl, k2, b2⟩
  · have hiM : i = M := by omega
    subst hiM
    have hm : (l.take i) = l.take 24 := by
      rcases Nat.le_total l.length 24 with h | h
      · rw [List.take_of_length_le h, List.take_of_length_le (by omega)]
      · rw [hM, Nat.min_eq_right h]
    rw [hm] at bu
    have bs := bu.sl.imp (ok' := orNew ok g.size) (fun c _ q => .inr q) (fun _ _ _ q => q) (fun _ _ _ q => q)
    by_cases c1 : i < l.length
    · have h1 : (i : Int) < (l.length : Int) := by omega
      have h2 : ¬ (i : Int) < 24 := by omega
      simp (disch := first | omega | (simp only [newRow_size, Array.size_setIfInBounds, Array.size_push]; done) | (simp only [newRow_size, Array.size_setIfInBounds, Array.size_push]; omega)) [l54_18, r54_12, hB', hl, h1, h2, eqT, eqF, neT, neF, ltT, ltF, leT, leF, nltT, nltF, nleT, nleF, nneT, nneF, List.getElem?_cons_zero, List.getElem?_cons_succ]
      exact hkn g' u _ kg bs
    · have h1 : ¬ (i : Int) < (l.length : Int) := by omega
      simp (disch := first | omega | (simp only [newRow_size, Array.size_setIfInBounds, Array.size_push]; done) | (simp only [newRow_size, Array.size_setIfInBounds, Array.size_push]; omega)) [l54_18, r54_12, hB', hl, h1, eqT, eqF, neT, neF, ltT, ltF, leT, leF, nltT, nltF, nleT, nleF, nneT, nneF, List.getElem?_cons_zero, List.getElem?_cons_succ]
      exact hkn g' u _ kg bs


def FewP (ok : Nat → Prop) (g : H) (x : Stp) (u : Value) (g' : H) : Prop := ∃ cs, u = .agg ⟨cs⟩ ∧ StpC (orNew ok g.size) g' cs (fewM x) ∧ Kept g g' []

theorem few_spec {F : Nat} (hF : 2000 ≤ F) {ok : Nat → Prop} {g : H} {cs : List Value} {x : Stp} (s : StpC ok g cs x) : Ans (cf F 54 [.agg ⟨cs⟩] g) (FewP ok g x) := by
  generalize hQ : FewP ok g x = Q
  obtain ⟨F, rfl⟩ : ∃ G, F = G + 1 := ⟨F - 1, by omega⟩
  obtain ⟨v, w, rfl, sv, sw⟩ := s
  rw [cf_step (a := a54) rfl rfl (by simp [a54])]
  have e : a54 = ⟨73, (.seq (.region r54_0 [1, 2]) (.seq (.region r54_1 [1, 2, 3]) (.seq fwC (.seq (.region r54_10 [1, 2, 3, 6]) (.seq fwP (.seq (.region r54_19 [1, 2, 6]) (.seq (.region r54_20 [1, 2]) (.seq (.region r54_21 [2]) .ret)))))))), [.cellN 2 5]⟩ := rfl
  rw [e]
  simp (disch := first | omega | (simp only [newRow_size, Array.size_setIfInBounds, Array.size_push]; done) | (simp only [newRow_size, Array.size_setIfInBounds, Array.size_push]; omega)) [r54_0, r54_1]
  obtain ⟨z, hz⟩ : ∃ z : List Value, z = [.int .i64 0, .int .i64 0, .int .i64 0, .slice none 0 0, .slice none 0 0] := ⟨_, rfl⟩
  rw [← hz]
  have k1 : Kept g (Ev.newRow (Ev.newRow g [.int .i64 x.kind, .int .i64 x.on, .int .i64 x.stamp, v, w] 0 []) z 0 []) [] := (rowKept _ _ _ _).trans (rowKept _ _ _ _)
  have h1 : hget (Ev.newRow (Ev.newRow g [.int .i64 x.kind, .int .i64 x.on, .int .i64 x.stamp, v, w] 0 []) z 0 []) g.size = some (.cells [.int .i64 x.kind, .int .i64 x.on, .int .i64 x.stamp, v, w] 0 true []) := by simp
  have h2 : hget (Ev.newRow (Ev.newRow g [.int .i64 x.kind, .int .i64 x.on, .int .i64 x.stamp, v, w] 0 []) z 0 []) (g.size + 1) = some (.cells z 0 true []) := by simp
  have hz1 : (Ev.newRow (Ev.newRow g [.int .i64 x.kind, .int .i64 x.on, .int .i64 x.stamp, v, w] 0 []) z 0 []).size = g.size + 2 := by simp
  generalize Ev.newRow (Ev.newRow g [.int .i64 x.kind, .int .i64 x.on, .int .i64 x.stamp, v, w] 0 []) z 0 [] = g1 at k1 h1 h2 hz1 ⊢
  have y1 := k1.1
  have sv1 := SlTgd.imp sv (ok' := fun c => ok c ∧ c < g.size) (fun _ h q => ⟨q, h⟩) (keep_of k1.c (by simp))
  refine fwC_spec (F := F) (by omega) h1 sv1 ?_
  intro g2 v3 e2 k2 s3
  have y2 := k2.1
  simp (disch := first | omega | (simp only [newRow_size, Array.size_setIfInBounds, Array.size_push]; done) | (simp only [newRow_size, Array.size_setIfInBounds, Array.size_push]; omega)) [r54_10]
  have h1' := (k2.get (lt_of_get h1) (by simp)).trans h1
  have sw2 := SlPrt.imp sw (ok' := fun c => ok c ∧ c < g.size) (fun _ h q => ⟨q, h⟩) (keep_of (k1.trans k2).c (by simp))
  refine fwP_spec (F := F) (by omega) h1' sw2 ?_
  intro g3 v6 e3 k3 s6
  have y3 := k3.1
  have h1'' := (k3.get (lt_of_get h1') (by simp)).trans h1'
  have h2'' := (k3.get (by have := lt_of_get h2; omega) (by simp)).trans ((k2.get (lt_of_get h2) (by simp)).trans h2)
  have h1s := lt_of_get h1''
  have h2s := lt_of_get h2''
  have o3 := s3.one
  have o6 := s6.one
  have w3 := s3.vc
  have w6 := s6.vc
  simp only [oneCell] at o3 o6
  simp only [vcells] at w3 w6
  have hzl : z.length = 5 := by rw [hz]; rfl
  have hzd : List.drop 5 z = [] := List.drop_of_length_le (by omega)
  have hne : ¬ g.size + 1 = g.size := by omega
  simp (disch := first | omega | (simp only [newRow_size, Array.size_setIfInBounds, Array.size_push]; done) | (simp only [newRow_size, Array.size_setIfInBounds, Array.size_push]; omega)) [r54_19, r54_20, r54_21, h1'', h2'', h1s, h2s, o3, o6, w3, w6, hzl, hzd, hne]
  have z1 : g1.size = g.size + 2 := hz1
  have kF : ∀ c, c ≠ g.size → c ≠ g.size + 1 → hget (Array.setIfInBounds (Array.setIfInBounds g3 g.size (.cells [.int .i64 x.kind, .int .i64 x.on, .int .i64 x.stamp, v3, v6] 0 true [])) (g.size + 1) (.cells [.int .i64 x.kind, .int .i64 x.on, .int .i64 x.stamp, v3, v6] 0 true [])) c = hget g3 c := by
    intro c h1 h2
    rw [set_other (fun e => h2 e.symm), set_other (fun e => h1 e.symm)]
  have zF : (Array.setIfInBounds (Array.setIfInBounds g3 g.size (.cells [.int .i64 x.kind, .int .i64 x.on, .int .i64 x.stamp, v3, v6] 0 true [])) (g.size + 1) (.cells [.int .i64 x.kind, .int .i64 x.on, .int .i64 x.stamp, v3, v6] 0 true [])).size = g3.size := by simp
  generalize Array.setIfInBounds (Array.setIfInBounds g3 g.size (.cells [.int .i64 x.kind, .int .i64 x.on, .int .i64 x.stamp, v3, v6] 0 true [])) (g.size + 1) (.cells [.int .i64 x.kind, .int .i64 x.on, .int .i64 x.stamp, v3, v6] 0 true []) = gF at kF zF ⊢
  subst hQ
  refine Ans.of ⟨_, rfl, ⟨v3, v6, rfl, ?_, ?_⟩, ⟨by omega, fun c hc _ => ?_⟩⟩
  · refine SlTgd.imp s3 (fun c _ q => ?_) (fun c cs q e => ?_)
    · rcases q with q | q
      · exact .inl q.1
      · exact .inr (by omega)
    · have hc := cel_lt e
      rw [← e, cel_congr (kF c (by rcases q with q | q <;> omega) (by rcases q with q | q <;> omega))]
      exact cel_congr (k3.get hc (by simp))
  · refine SlPrt.imp s6 (fun c _ q => ?_) (fun c cs q e => ?_)
    · rcases q with q | q
      · exact .inl q.1
      · exact .inr (by omega)
    · rw [← e]
      exact cel_congr (kF c (by rcases q with q | q <;> omega) (by rcases q with q | q <;> omega))
  · rw [kF c (by omega) (by omega), k3.get (by omega) (by simp), k2.get (by omega) (by simp), k1.get hc (by simp)]

end Go.Proofs.Ytkkagpchcefidaa

/- QueueOwn: copied. -/
set_option linter.unusedSimpArgs false
set_option linter.unusedVariables false
namespace Go.Proofs.Ytkkagpchcefidaa
open Go.Ev

def cdC : ACode := (.seq (.region r57_6 [0, 3, 4, 5, 6]) (.block 2 (.loop [0, 3, 4, 5, 6] l57_13)))
def cdP : ACode := (.seq (.region r57_15 [0, 3, 4, 5, 8]) (.block 4 (.loop [0, 3, 4, 5, 8] l57_22)))

set_option maxHeartbeats 4000000 in
theorem cdC_spec {F : Nat} (hF : 17592186044420 ≤ F) {N : Nat} {g : H} {B i : Nat} {v0 u w : Value} {items : List Itm} {x : Itm} (hN : N ≤ B) (hx : items[i]? = some x) (hsh : ShortT x.chgs) (s : SlR (fun c => c < N) 5 (ItmC (fun c => c < N)) g v0 items) (hw0 : oneCell w = true)
    (hB : hget g B = some (.cells [.int .i64 x.stamp, .int .i64 x.after, .bool x.marker, .slice none 0 0, w] 0 true [])) {re : Env}
    {kn kr : K} {ke : Nat → K} {Q : Value → H → Prop}
    (hkn : ∀ g' c (e : Env), Kept g g' [B] → Bld (since g.size) 5 (TgdC (since g.size)) g' c x.chgs → hget g' B = some (.cells [.int .i64 x.stamp, .int .i64 x.after, .bool x.marker, c, w] 0 true []) → Ans (kn ((0, v0) :: (3, u) :: (4, .int .i64 i) :: (5, .pointer (some ⟨B, 0, none⟩)) :: e) g' []) Q) :
    Ans (evC F (cf F) cdC kn ke kr ((0, v0) :: (3, u) :: (4, .int .i64 i) :: (5, .pointer (some ⟨B, 0, none⟩)) :: re) g []) Q := by
  obtain ⟨hs1, hs2⟩ := hsh
  have hil := (List.getElem?_eq_some_iff.1 hx).1
  have hBg := lt_of_get hB
  simp (disch := first | omega | (simp only [newRow_size, Array.size_setIfInBounds, Array.size_push]; done) | (simp only [newRow_size, Array.size_setIfInBounds, Array.size_push]; omega)) [cdC, r57_6]
  refine loop_rule (fun mm e g' => ∃ (k : Nat) (c : Value), mm = x.chgs.length - k ∧ k ≤ x.chgs.length ∧ e = [(0, v0), (3, u), (4, .int .i64 i), (5, .pointer (some ⟨B, 0, none⟩)), (6, .int .i64 k)] ∧ Kept g g' [B] ∧ Bld (since g.size) 5 (TgdC (since g.size)) g' c (x.chgs.take k) ∧
      hget g' B = some (.cells [.int .i64 x.stamp, .int .i64 x.after, .bool x.marker, c, w] 0 true [])) ?_ _ x.chgs.length _ _ (by omega) ⟨0, _, by omega, by omega, rfl, Kept.refl _ _, Bld.nil _ _ _ _, hB⟩
  rintro mm e g' again ⟨k, c, rfl, hk, rfl, kg, bc, hB'⟩ ih
  have hw : IntKind.i64.wrap ((k : Int) + 1) = ((k + 1 : Nat) : Int) := by rw [IntKind.wrap_i64]; omega
  have hBs := lt_of_get hB'
  have yg := kg.1
  have sg : SlR (fun c => c < N) 5 (ItmC (fun c => c < N)) g' v0 items := SlItm.imp s (fun _ _ q => q) (keep_of kg.c (by intro b hb; rw [List.mem_singleton.1 hb]; omega))
  obtain ⟨b0, o0, c0, cs0, es0, lv0, an0, rfl, hk0, hg0, hle0, vt, vp, hat0, st, sp⟩ := sg.at' hx
  obtain ⟨_, r3, r4, _⟩ := get5 hat0
  have hlt0 := st.len
  have hg0s := lt_of_get hg0
  by_cases hlt : k < x.chgs.length
  · obtain ⟨t, ht⟩ : ∃ t, x.chgs[k]? = some t := ⟨_, List.getElem?_eq_getElem hlt⟩
    have hkc : (k : Int) < (x.chgs.length : Int) := by omega
    obtain ⟨b1, o1, c1, cs1, es1, lv1, an1, rfl, hk1, hg1, hle1, vg, hat1, sg1⟩ := st.at' ht
    obtain ⟨_, _, q4, _⟩ := get5 hat1
    have hg1s := lt_of_get hg1
    have hto := sg1.one
    simp only [oneCell] at hto
    -- the change copied, its tags behind
    have kE := rowKept g' [.int .i64 t.chg.kind, .string t.chg.place, .string t.chg.data, .int .i64 t.chg.ver, .slice none 0 0] 0 []
    have sgE : SlR (fun c => c < N) 1 IntC (Ev.newRow g' [.int .i64 t.chg.kind, .string t.chg.place, .string t.chg.data, .int .i64 t.chg.ver, .slice none 0 0] 0 []) vg t.tags := SlInt.imp sg1 (fun _ _ q => q) (keep_of kE.c (by simp))
    have htl := hs2 t (List.mem_of_getElem? ht)
    obtain ⟨new, e1, e2, e3⟩ := sgE.src (by omega) (fun cs x _ q => (int_cells _ cs x q).1)
    have hone : new.all oneCell = true := by
      rw [List.all_eq_true]
      intro z hz
      obtain ⟨n, hn, rfl⟩ := List.getElem_of_mem hz
      have h3 := e3 n _ (List.getElem?_eq_getElem (by omega))
      have h4 : (new.drop (n * 1)).take 1 = [.int .i64 t.tags[n]] := h3
      rw [Nat.mul_one] at h4
      have h5 : ((new.drop n).take 1)[0]? = some (.int .i64 t.tags[n]) := by rw [h4]; rfl
      rw [List.getElem?_take, if_pos (by omega), List.getElem?_drop, Nat.add_zero, List.getElem?_eq_getElem hn] at h5
      injection h5 with h5
      rw [h5]; rfl
    have nt := sgE.ne_text
    simp only [isText] at nt
    simp (disch := first | omega | (simp only [newRow_size, Array.size_setIfInBounds, Array.size_push]; done) | (simp only [newRow_size, Array.size_setIfInBounds, Array.size_push]; omega)) [l57_13, r57_7, hg0, hle0, r3, hil, hkc, hlt0, eqT, eqF, neT, neF, ltT, ltF, leT, leF, nltT, nltF, nleT, nleF, nneT, nneF, List.getElem?_cons_zero, List.getElem?_cons_succ, r57_8, hg1, hle1, hat1, hlt, hto, r57_9, d57_10, r3, q4, nt, e1, hone]
    have bN : Bld (since g.size) 1 IntC (Ev.newRow g' [.int .i64 t.chg.kind, .string t.chg.place, .string t.chg.data, .int .i64 t.chg.ver, .slice none 0 0] 0 []) (.slice none 0 0) [] := Bld.nil _ _ _ _
    refine Ans.nextE (bN.appN (ys := t.tags) (bytes := 8) e2 (by simp; omega) (by show g.size ≤ _; simp; omega) (fun h' k cs y _ q => q) (fun h' k n y hy => e3 n y hy)) ?_
    rintro v2 g2 ⟨b2, k2, z2, f2, _⟩
    have y2 := k2.1
    have kE2 : Kept (Ev.newRow g' [.int .i64 t.chg.kind, .string t.chg.place, .string t.chg.data, .int .i64 t.chg.ver, .slice none 0 0] 0 []) g2 [] := ⟨y2, fun c hc _ => f2 c hc (by simp)⟩
    have h2 : hget g2 g'.size = some (.cells [.int .i64 t.chg.kind, .string t.chg.place, .string t.chg.data, .int .i64 t.chg.ver, .slice none 0 0] 0 true []) := (kE2.get (by simp) (by simp)).trans (by simp)
    have h2s := lt_of_get h2
    have o2 := b2.sl.one
    have w2 := b2.sl.vc
    simp only [oneCell] at o2
    simp only [vcells] at w2
    have hB2 : hget g2 B = some (.cells [.int .i64 x.stamp, .int .i64 x.after, .bool x.marker, c, w] 0 true []) := (kE2.get (by simp; omega) (by simp)).trans ((kE.get hBs (by simp)).trans hB')
    have hBne : ¬ g'.size = B := by omega
    simp (disch := first | omega | (simp only [newRow_size, Array.size_setIfInBounds, Array.size_push]; done) | (simp only [newRow_size, Array.size_setIfInBounds, Array.size_push]; omega)) [h2, o2, w2, h2s, r57_11, hB2, hBne, srcOf]
    have k3 : Kept g' (Array.setIfInBounds g2 g'.size (.cells [.int .i64 t.chg.kind, .string t.chg.place, .string t.chg.data, .int .i64 t.chg.ver, v2] 0 true [])) [] := ⟨by simp at y2 ⊢; omega, fun d hd _ => by
      rw [set_other (by omega), kE2.get (by simp; omega) (by simp), kE.get hd (by simp)]⟩
    have b3 : SlR (since g.size) 1 IntC (Array.setIfInBounds g2 g'.size (.cells [.int .i64 t.chg.kind, .string t.chg.place, .string t.chg.data, .int .i64 t.chg.ver, v2] 0 true [])) v2 t.tags := by
      rcases b2 with ⟨e, e'⟩ | ⟨bb, cs, an, e, hk', hb, hl, hi⟩
      · exact .inl ⟨.inl e, by simpa using e'⟩
      · by_cases hbb : bb = g'.size
        · subst hbb
          rw [h2] at hb
          injection hb with hb
          injection hb with _ hb
          cases hb
        · exact Bld.sl (.inr ⟨bb, cs, an, by simpa using e, hk', (set_other (fun q => hbb q.symm)).trans hb, by simpa using hl, fun n y hy => hi n y (by simpa using hy)⟩)
    have hB3 : hget (Array.setIfInBounds g2 g'.size (.cells [.int .i64 t.chg.kind, .string t.chg.place, .string t.chg.data, .int .i64 t.chg.ver, v2] 0 true [])) B = some (.cells [.int .i64 x.stamp, .int .i64 x.after, .bool x.marker, c, w] 0 true []) := (set_other hBne).trans hB2
    have z3 : (Array.setIfInBounds g2 g'.size (.cells [.int .i64 t.chg.kind, .string t.chg.place, .string t.chg.data, .int .i64 t.chg.ver, v2] 0 true [])).size = g2.size := by simp
    generalize Array.setIfInBounds g2 g'.size (.cells [.int .i64 t.chg.kind, .string t.chg.place, .string t.chg.data, .int .i64 t.chg.ver, v2] 0 true []) = g3 at k3 b3 hB3 z3 ⊢
    have kR := rowKept g3 [.int .i64 t.chg.kind, .string t.chg.place, .string t.chg.data, .int .i64 t.chg.ver, v2] 5 []
    have bR : Bld (since g.size) 5 (TgdC (since g.size)) (Ev.newRow g3 [.int .i64 t.chg.kind, .string t.chg.place, .string t.chg.data, .int .i64 t.chg.ver, v2] 5 []) c (x.chgs.take k) := bc.kept (h' := Ev.newRow g3 [.int .i64 t.chg.kind, .string t.chg.place, .string t.chg.data, .int .i64 t.chg.ver, v2] 5 []) (L := []) (k3.trans kR) (by simp) (fun cs y _ q => TgdC.imp q (fun _ _ q => q) (keep_of (k3.trans kR).c (by simp)))
    have y3 := k3.1
    refine Ans.next (bR.app (x := t) (bytes := 72) rfl (by simp; omega) (by show g.size ≤ _; simp; omega) (fun h' k cs y _ q => TgdC.imp q (fun _ _ q => q) (keep_of k (by simp))) (fun h' k => ⟨v2, rfl, SlInt.imp b3 (fun _ _ q => q) (keep_of (kR.c.trans k) (by simp))⟩)) ?_
    rintro c4 g4 ⟨b4, k4, z4, f4, _⟩
    have y4 := k4.1
    have fr4 : ∀ d, d < g3.size → ¬ since g.size d → hget g4 d = hget g3 d := fun d hd hn => (f4 d (by simp; omega) (bR.ne hn)).trans (kR.get hd (by simp))
    have hB4 := (fr4 B (by omega) (by show ¬ g.size ≤ B; omega)).trans hB3
    have hB4s := lt_of_get hB4
    have o4 := b4.sl.one
    have w4 := b4.sl.vc
    simp only [oneCell] at o4
    simp only [vcells] at w4
    simp (disch := first | omega | (simp only [newRow_size, Array.size_setIfInBounds, Array.size_push]; done) | (simp only [newRow_size, Array.size_setIfInBounds, Array.size_push]; omega)) [hB4, o4, w4, hB4s, r57_12, hw]
    have kc5 : Kept g4 (Array.setIfInBounds g4 B (.cells [.int .i64 x.stamp, .int .i64 x.after, .bool x.marker, c4, w] 0 true [])) [B] := ⟨by simp, fun d hd hn => set_other (by simpa using Ne.symm (by simpa using hn))⟩
    refine ih (x.chgs.length - (k + 1)) _ _ (by omega) ⟨k + 1, c4, rfl, by omega, rfl, ⟨by simp at y4 ⊢; omega, fun d hd hn => ?_⟩, ?_, set_self rfl hB4s⟩
    · rw [kc5.get (by simp at y4; omega) hn]
      rw [fr4 d (by omega) (by show ¬ g.size ≤ d; omega), k3.get (by omega) (by simp), kg.get hd hn]
    · rw [take_snoc ht]
      exact b4.kept (h' := Array.setIfInBounds g4 B (.cells [.int .i64 x.stamp, .int .i64 x.after, .bool x.marker, c4, w] 0 true [])) (L := [B]) kc5 (by intro d hd; rw [List.mem_singleton.1 hd]; show ¬ g.size ≤ B; omega) (fun cs y _ q => TgdC.imp q (fun _ _ q => q) (keep_of kc5.c (by intro d hd; rw [List.mem_singleton.1 hd]; show ¬ g.size ≤ B; omega)))
  · have hkk : k = x.chgs.length := by omega
    subst hkk
    rw [List.take_length] at bc
    have hnk : ¬ (x.chgs.length : Int) < (x.chgs.length : Int) := by omega
    simp (disch := first | omega | (simp only [newRow_size, Array.size_setIfInBounds, Array.size_push]; done) | (simp only [newRow_size, Array.size_setIfInBounds, Array.size_push]; omega)) [l57_13, r57_7, hg0, hle0, r3, hil, hnk, hlt0, eqT, eqF, neT, neF, ltT, ltF, leT, leF, nltT, nltF, nleT, nleF, nneT, nneF, List.getElem?_cons_zero, List.getElem?_cons_succ]
    exact hkn g' c _ kg bc hB'

end Go.Proofs.Ytkkagpchcefidaa

/- QueueOwn: copied, the whole. -/
set_option linter.unusedSimpArgs false
set_option linter.unusedVariables false
namespace Go.Proofs.Ytkkagpchcefidaa
open Go.Ev

set_option maxHeartbeats 4000000 in
theorem cdP_spec {F : Nat} (hF : 17592186044420 ≤ F) {N : Nat} {g : H} {B i : Nat} {v0 u w : Value} {items : List Itm} {x : Itm} (hN : N ≤ B) (hx : items[i]? = some x) (hsh : ShortP x.prts) (s : SlR (fun c => c < N) 5 (ItmC (fun c => c < N)) g v0 items) (hw0 : oneCell w = true)
    (hB : hget g B = some (.cells [.int .i64 x.stamp, .int .i64 x.after, .bool x.marker, w, .slice none 0 0] 0 true [])) {re : Env}
    {kn kr : K} {ke : Nat → K} {Q : Value → H → Prop}
    (hkn : ∀ g' c (e : Env), Kept g g' [B] → Bld (since g.size) 5 (PrtC (since g.size)) g' c x.prts → hget g' B = some (.cells [.int .i64 x.stamp, .int .i64 x.after, .bool x.marker, w, c] 0 true []) → Ans (kn ((0, v0) :: (3, u) :: (4, .int .i64 i) :: (5, .pointer (some ⟨B, 0, none⟩)) :: e) g' []) Q) :
    Ans (evC F (cf F) cdP kn ke kr ((0, v0) :: (3, u) :: (4, .int .i64 i) :: (5, .pointer (some ⟨B, 0, none⟩)) :: re) g []) Q := by
  obtain ⟨hs1, hs2⟩ := hsh
  have hil := (List.getElem?_eq_some_iff.1 hx).1
  have hBg := lt_of_get hB
  simp (disch := first | omega | (simp only [newRow_size, Array.size_setIfInBounds, Array.size_push]; done) | (simp only [newRow_size, Array.size_setIfInBounds, Array.size_push]; omega)) [cdP, r57_15]
  refine loop_rule (fun mm e g' => ∃ (k : Nat) (c : Value), mm = x.prts.length - k ∧ k ≤ x.prts.length ∧ e = [(0, v0), (3, u), (4, .int .i64 i), (5, .pointer (some ⟨B, 0, none⟩)), (8, .int .i64 k)] ∧ Kept g g' [B] ∧ Bld (since g.size) 5 (PrtC (since g.size)) g' c (x.prts.take k) ∧
      hget g' B = some (.cells [.int .i64 x.stamp, .int .i64 x.after, .bool x.marker, w, c] 0 true [])) ?_ _ x.prts.length _ _ (by omega) ⟨0, _, by omega, by omega, rfl, Kept.refl _ _, Bld.nil _ _ _ _, hB⟩
  rintro mm e g' again ⟨k, c, rfl, hk, rfl, kg, bc, hB'⟩ ih
  have hw : IntKind.i64.wrap ((k : Int) + 1) = ((k + 1 : Nat) : Int) := by rw [IntKind.wrap_i64]; omega
  have hBs := lt_of_get hB'
  have yg := kg.1
  have sg : SlR (fun c => c < N) 5 (ItmC (fun c => c < N)) g' v0 items := SlItm.imp s (fun _ _ q => q) (keep_of kg.c (by intro b hb; rw [List.mem_singleton.1 hb]; omega))
  obtain ⟨b0, o0, c0, cs0, es0, lv0, an0, rfl, hk0, hg0, hle0, vt, vp, hat0, st, sp⟩ := sg.at' hx
  obtain ⟨_, r3, r4, _⟩ := get5 hat0
  have hlt0 := sp.len
  have hg0s := lt_of_get hg0
  by_cases hlt : k < x.prts.length
  · obtain ⟨t, ht⟩ : ∃ t, x.prts[k]? = some t := ⟨_, List.getElem?_eq_getElem hlt⟩
    have hkc : (k : Int) < (x.prts.length : Int) := by omega
    obtain ⟨b1, o1, c1, cs1, es1, lv1, an1, rfl, hk1, hg1, hle1, vg, hat1, sg1⟩ := sp.at' ht
    obtain ⟨_, _, q4, _⟩ := get5 hat1
    have hg1s := lt_of_get hg1
    have hto := sg1.one
    simp only [oneCell] at hto
    -- the change copied, its tags behind
    have kE := rowKept g' [.int .i64 t.id, .int .i64 t.stamp, .string t.place, .int .i64 t.kind, .slice none 0 0] 0 []
    have sgE : SlR (fun c => c < N) 3 SeenC (Ev.newRow g' [.int .i64 t.id, .int .i64 t.stamp, .string t.place, .int .i64 t.kind, .slice none 0 0] 0 []) vg t.nodes := SlSeen.imp sg1 (fun _ _ q => q) (keep_of kE.c (by simp))
    have htl := hs2 t (List.mem_of_getElem? ht)
    obtain ⟨new, e1, e2, e3⟩ := sgE.src (by omega) (fun cs x _ q => (seen_cells _ cs x q).1)
    have hone : new.all oneCell = true := by
      rw [List.all_eq_true]
      intro z hz
      obtain ⟨n, hn, rfl⟩ := List.getElem_of_mem hz
      have hi3 : n / 3 < t.nodes.length := by omega
      have h3 := e3 (n / 3) _ (List.getElem?_eq_getElem hi3)
      have h4 := List.all_eq_true.1 (seen_cells _ _ _ h3).2
      refine h4 _ ?_
      rw [List.mem_iff_getElem?]
      refine ⟨n % 3, ?_⟩
      rw [List.getElem?_take, if_pos (by omega), List.getElem?_drop, show n / 3 * 3 + n % 3 = n by omega]
      exact List.getElem?_eq_getElem hn
    have nt := sgE.ne_text
    simp only [isText] at nt
    simp (disch := first | omega | (simp only [newRow_size, Array.size_setIfInBounds, Array.size_push]; done) | (simp only [newRow_size, Array.size_setIfInBounds, Array.size_push]; omega)) [l57_22, r57_16, hg0, hle0, r4, hil, hkc, hlt0, eqT, eqF, neT, neF, ltT, ltF, leT, leF, nltT, nltF, nleT, nleF, nneT, nneF, List.getElem?_cons_zero, List.getElem?_cons_succ, r57_17, hg1, hle1, hat1, hlt, hto, r57_18, d57_19, r4, q4, nt, e1, hone]
    have bN : Bld (since g.size) 3 SeenC (Ev.newRow g' [.int .i64 t.id, .int .i64 t.stamp, .string t.place, .int .i64 t.kind, .slice none 0 0] 0 []) (.slice none 0 0) [] := Bld.nil _ _ _ _
    refine Ans.nextE (bN.appN (ys := t.nodes) (bytes := 40) e2 (by simp; omega) (by show g.size ≤ _; simp; omega) (fun h' k cs y _ q => q) (fun h' k n y hy => e3 n y hy)) ?_
    rintro v2 g2 ⟨b2, k2, z2, f2, _⟩
    have y2 := k2.1
    have kE2 : Kept (Ev.newRow g' [.int .i64 t.id, .int .i64 t.stamp, .string t.place, .int .i64 t.kind, .slice none 0 0] 0 []) g2 [] := ⟨y2, fun c hc _ => f2 c hc (by simp)⟩
    have h2 : hget g2 g'.size = some (.cells [.int .i64 t.id, .int .i64 t.stamp, .string t.place, .int .i64 t.kind, .slice none 0 0] 0 true []) := (kE2.get (by simp) (by simp)).trans (by simp)
    have h2s := lt_of_get h2
    have o2 := b2.sl.one
    have w2 := b2.sl.vc
    simp only [oneCell] at o2
    simp only [vcells] at w2
    have hB2 : hget g2 B = some (.cells [.int .i64 x.stamp, .int .i64 x.after, .bool x.marker, w, c] 0 true []) := (kE2.get (by simp; omega) (by simp)).trans ((kE.get hBs (by simp)).trans hB')
    have hBne : ¬ g'.size = B := by omega
    simp (disch := first | omega | (simp only [newRow_size, Array.size_setIfInBounds, Array.size_push]; done) | (simp only [newRow_size, Array.size_setIfInBounds, Array.size_push]; omega)) [h2, o2, w2, h2s, r57_20, hB2, hBne, srcOf]
    have k3 : Kept g' (Array.setIfInBounds g2 g'.size (.cells [.int .i64 t.id, .int .i64 t.stamp, .string t.place, .int .i64 t.kind, v2] 0 true [])) [] := ⟨by simp at y2 ⊢; omega, fun d hd _ => by
      rw [set_other (by omega), kE2.get (by simp; omega) (by simp), kE.get hd (by simp)]⟩
    have b3 : SlR (since g.size) 3 SeenC (Array.setIfInBounds g2 g'.size (.cells [.int .i64 t.id, .int .i64 t.stamp, .string t.place, .int .i64 t.kind, v2] 0 true [])) v2 t.nodes := by
      rcases b2 with ⟨e, e'⟩ | ⟨bb, cs, an, e, hk', hb, hl, hi⟩
      · exact .inl ⟨.inl e, by simpa using e'⟩
      · by_cases hbb : bb = g'.size
        · subst hbb
          rw [h2] at hb
          injection hb with hb
          injection hb with _ hb
          cases hb
        · exact Bld.sl (.inr ⟨bb, cs, an, by simpa using e, hk', (set_other (fun q => hbb q.symm)).trans hb, by simpa using hl, fun n y hy => hi n y (by simpa using hy)⟩)
    have hB3 : hget (Array.setIfInBounds g2 g'.size (.cells [.int .i64 t.id, .int .i64 t.stamp, .string t.place, .int .i64 t.kind, v2] 0 true [])) B = some (.cells [.int .i64 x.stamp, .int .i64 x.after, .bool x.marker, w, c] 0 true []) := (set_other hBne).trans hB2
    have z3 : (Array.setIfInBounds g2 g'.size (.cells [.int .i64 t.id, .int .i64 t.stamp, .string t.place, .int .i64 t.kind, v2] 0 true [])).size = g2.size := by simp
    generalize Array.setIfInBounds g2 g'.size (.cells [.int .i64 t.id, .int .i64 t.stamp, .string t.place, .int .i64 t.kind, v2] 0 true []) = g3 at k3 b3 hB3 z3 ⊢
    have kR := rowKept g3 [.int .i64 t.id, .int .i64 t.stamp, .string t.place, .int .i64 t.kind, v2] 5 []
    have bR : Bld (since g.size) 5 (PrtC (since g.size)) (Ev.newRow g3 [.int .i64 t.id, .int .i64 t.stamp, .string t.place, .int .i64 t.kind, v2] 5 []) c (x.prts.take k) := bc.kept (h' := Ev.newRow g3 [.int .i64 t.id, .int .i64 t.stamp, .string t.place, .int .i64 t.kind, v2] 5 []) (L := []) (k3.trans kR) (by simp) (fun cs y _ q => PrtC.imp q (fun _ _ q => q) (keep_of (k3.trans kR).c (by simp)))
    have y3 := k3.1
    refine Ans.next (bR.app (x := t) (bytes := 64) rfl (by simp; omega) (by show g.size ≤ _; simp; omega) (fun h' k cs y _ q => PrtC.imp q (fun _ _ q => q) (keep_of k (by simp))) (fun h' k => ⟨v2, rfl, SlSeen.imp b3 (fun _ _ q => q) (keep_of (kR.c.trans k) (by simp))⟩)) ?_
    rintro c4 g4 ⟨b4, k4, z4, f4, _⟩
    have y4 := k4.1
    have fr4 : ∀ d, d < g3.size → ¬ since g.size d → hget g4 d = hget g3 d := fun d hd hn => (f4 d (by simp; omega) (bR.ne hn)).trans (kR.get hd (by simp))
    have hB4 := (fr4 B (by omega) (by show ¬ g.size ≤ B; omega)).trans hB3
    have hB4s := lt_of_get hB4
    have o4 := b4.sl.one
    have w4 := b4.sl.vc
    simp only [oneCell] at o4
    simp only [vcells] at w4
    simp (disch := first | omega | (simp only [newRow_size, Array.size_setIfInBounds, Array.size_push]; done) | (simp only [newRow_size, Array.size_setIfInBounds, Array.size_push]; omega)) [hB4, o4, w4, hB4s, r57_21, hw]
    have kc5 : Kept g4 (Array.setIfInBounds g4 B (.cells [.int .i64 x.stamp, .int .i64 x.after, .bool x.marker, w, c4] 0 true [])) [B] := ⟨by simp, fun d hd hn => set_other (by simpa using Ne.symm (by simpa using hn))⟩
    refine ih (x.prts.length - (k + 1)) _ _ (by omega) ⟨k + 1, c4, rfl, by omega, rfl, ⟨by simp at y4 ⊢; omega, fun d hd hn => ?_⟩, ?_, set_self rfl hB4s⟩
    · rw [kc5.get (by simp at y4; omega) hn]
      rw [fr4 d (by omega) (by show ¬ g.size ≤ d; omega), k3.get (by omega) (by simp), kg.get hd hn]
    · rw [take_snoc ht]
      exact b4.kept (h' := Array.setIfInBounds g4 B (.cells [.int .i64 x.stamp, .int .i64 x.after, .bool x.marker, w, c4] 0 true [])) (L := [B]) kc5 (by intro d hd; rw [List.mem_singleton.1 hd]; show ¬ g.size ≤ B; omega) (fun cs y _ q => PrtC.imp q (fun _ _ q => q) (keep_of kc5.c (by intro d hd; rw [List.mem_singleton.1 hd]; show ¬ g.size ≤ B; omega)))
  · have hkk : k = x.prts.length := by omega
    subst hkk
    rw [List.take_length] at bc
    have hnk : ¬ (x.prts.length : Int) < (x.prts.length : Int) := by omega
    simp (disch := first | omega | (simp only [newRow_size, Array.size_setIfInBounds, Array.size_push]; done) | (simp only [newRow_size, Array.size_setIfInBounds, Array.size_push]; omega)) [l57_22, r57_16, hg0, hle0, r4, hil, hnk, hlt0, eqT, eqF, neT, neF, ltT, ltF, leT, leF, nltT, nltF, nleT, nleF, nneT, nneF, List.getElem?_cons_zero, List.getElem?_cons_succ]
    exact hkn g' c _ kg bc hB'


def CopiedP (g : H) (items : List Itm) (u : Value) (g' : H) : Prop := Kept g g' [] ∧ SlR (since g.size) 5 (ItmC (since g.size)) g' u items

set_option maxHeartbeats 4000000 in
theorem copied_spec {F : Nat} (hF : 17592186044430 ≤ F) {ok : Nat → Prop} {g : H} {v0 : Value} {items : List Itm} (s0 : SlR ok 5 (ItmC ok) g v0 items) (hsh : ShortI items) : Ans (cf F 57 [v0] g) (CopiedP g items) := by
  generalize hQ : CopiedP g items = Q
  obtain ⟨F, rfl⟩ : ∃ G, F = G + 1 := ⟨F - 1, by omega⟩
  obtain ⟨hs1, hs2⟩ := hsh
  have s : SlR (fun c => c < g.size) 5 (ItmC (fun c => c < g.size)) g v0 items := SlItm.imp s0 (fun _ h _ => h) (fun _ _ _ e => e)
  have hl := s.len
  rw [cf_step (a := a57) rfl rfl (by simp [a57])]
  simp (disch := first | omega | (simp only [newRow_size, Array.size_setIfInBounds, Array.size_push]; done) | (simp only [newRow_size, Array.size_setIfInBounds, Array.size_push]; omega)) [a57, r57_0, r57_1, r57_2]
  refine loop_rule (fun mm e g' => ∃ (i : Nat) (u : Value), mm = items.length - i ∧ i ≤ items.length ∧ e = [(0, v0), (3, u), (4, .int .i64 i)] ∧ Kept g g' [] ∧ Bld (since g.size) 5 (ItmC (since g.size)) g' u (items.take i)) ?_ _ items.length _ _ (by omega) ⟨0, _, by omega, by omega, rfl, Kept.refl _ _, Bld.nil _ _ _ _⟩
  rintro mm e g' again ⟨i, u, rfl, hi, rfl, kg, bu⟩ ih
  have hw : IntKind.i64.wrap ((i : Int) + 1) = ((i + 1 : Nat) : Int) := by rw [IntKind.wrap_i64]; omega
  have yg := kg.1
  by_cases hlt : i < items.length
  · obtain ⟨x, hx⟩ : ∃ x, items[i]? = some x := ⟨_, List.getElem?_eq_getElem hlt⟩
    obtain ⟨sh1, sh2⟩ := hs2 x (List.mem_of_getElem? hx)
    have hic : (i : Int) < (items.length : Int) := by omega
    have sg : SlR (fun c => c < g.size) 5 (ItmC (fun c => c < g.size)) g' v0 items := SlItm.imp s (fun _ _ q => q) (keep_of kg.c (by simp))
    obtain ⟨b0, o0, c0, cs0, es0, lv0, an0, rfl, hk0, hg0, hle0, vt, vp, hat0, st, sp⟩ := sg.at' hx
    have hg0s := lt_of_get hg0
    have ot := st.one
    have op := sp.one
    simp only [oneCell] at ot op
    have hop := sp.one
    have eC : l57_25 = (.seq (.seq (.region r57_3 [0, 3, 4, 13]) (.cond (.tmp 13) .skip (.exit 0))) (.seq (.block 1 (.seq (.region r57_4 [0, 3, 4, 5]) (.seq (.region r57_5 [0, 3, 4, 5]) (.seq cdC (.seq (.region r57_14 [0, 3, 4, 5]) (.seq cdP (.region r57_23 [0, 3, 4]))))))) (.region r57_24 [0, 3, 4]))) := rfl
    simp (disch := first | omega | (simp only [newRow_size, Array.size_setIfInBounds, Array.size_push]; done) | (simp only [newRow_size, Array.size_setIfInBounds, Array.size_push]; omega)) [eC, r57_3, hic, eqT, eqF, neT, neF, ltT, ltF, leT, leF, nltT, nltF, nleT, nleF, nneT, nneF, List.getElem?_cons_zero, List.getElem?_cons_succ, r57_4, hg0, hle0, hat0, hlt, ot, op, r57_5]
    have k1 := rowKept g' [.int .i64 x.stamp, .int .i64 x.after, .bool x.marker, .slice none 0 0, vp] 0 []
    have h1 : hget (Ev.newRow g' [.int .i64 x.stamp, .int .i64 x.after, .bool x.marker, .slice none 0 0, vp] 0 []) g'.size = some (.cells [.int .i64 x.stamp, .int .i64 x.after, .bool x.marker, .slice none 0 0, vp] 0 true []) := by simp
    have z1 : (Ev.newRow g' [.int .i64 x.stamp, .int .i64 x.after, .bool x.marker, .slice none 0 0, vp] 0 []).size = g'.size + 1 := by simp
    generalize Ev.newRow g' [.int .i64 x.stamp, .int .i64 x.after, .bool x.marker, .slice none 0 0, vp] 0 [] = g1 at k1 h1 z1 ⊢
    have s1 : SlR (fun c => c < g.size) 5 (ItmC (fun c => c < g.size)) g1 _ items := SlItm.imp sg (fun _ _ q => q) (keep_of k1.c (by simp))
    refine cdC_spec (F := F) (by omega) (by omega) hx sh1 s1 hop h1 ?_
    intro g2 c e2 k2 b2 h2
    have y2 := k2.1
    have h2s := lt_of_get h2
    have oc := b2.sl.one
    have hoc := oc
    simp only [oneCell] at oc
    simp (disch := first | omega | (simp only [newRow_size, Array.size_setIfInBounds, Array.size_push]; done) | (simp only [newRow_size, Array.size_setIfInBounds, Array.size_push]; omega)) [r57_14, h2, h2s, oc]
    have k3 : Kept g2 (Array.setIfInBounds g2 g'.size (.cells [.int .i64 x.stamp, .int .i64 x.after, .bool x.marker, c, .slice none 0 0] 0 true [])) [g'.size] := ⟨by simp, fun d hd hn => set_other (by simpa using Ne.symm (by simpa using hn))⟩
    have h3 : hget (Array.setIfInBounds g2 g'.size (.cells [.int .i64 x.stamp, .int .i64 x.after, .bool x.marker, c, .slice none 0 0] 0 true [])) g'.size = some (.cells [.int .i64 x.stamp, .int .i64 x.after, .bool x.marker, c, .slice none 0 0] 0 true []) := set_self rfl h2s
    have z3 : (Array.setIfInBounds g2 g'.size (.cells [.int .i64 x.stamp, .int .i64 x.after, .bool x.marker, c, .slice none 0 0] 0 true [])).size = g2.size := by simp
    generalize Array.setIfInBounds g2 g'.size (.cells [.int .i64 x.stamp, .int .i64 x.after, .bool x.marker, c, .slice none 0 0] 0 true []) = g3 at k3 h3 z3 ⊢
    have k13 := k2.trans k3
    have s3 : SlR (fun c => c < g.size) 5 (ItmC (fun c => c < g.size)) g3 _ items := SlItm.imp s1 (fun _ _ q => q) (keep_of k13.c (by intro d hd; rw [List.mem_singleton.1 hd]; omega))
    refine cdP_spec (F := F) (by omega) (by omega) hx sh2 s3 hoc h3 ?_
    intro g4 p e4 k4 b4 h4
    have y4 := k4.1
    have h4s := lt_of_get h4
    have o4 := b4.sl.one
    have hop4 := o4
    simp only [oneCell] at o4
    simp (disch := first | omega | (simp only [newRow_size, Array.size_setIfInBounds, Array.size_push]; done) | (simp only [newRow_size, Array.size_setIfInBounds, Array.size_push]; omega)) [r57_23, h4, oc, o4, srcOf]
    have kR := rowKept g4 [.int .i64 x.stamp, .int .i64 x.after, .bool x.marker, c, p] 5 []
    have k34 := k3.trans k4
    have kall : Kept g' (Ev.newRow g4 [.int .i64 x.stamp, .int .i64 x.after, .bool x.marker, c, p] 5 []) [] := ⟨by simp; omega, fun d hd _ => by
      rw [kR.get (by omega) (by simp), k4.get (by omega) (by simp; omega), k13.get (by omega) (by simp; omega), k1.get hd (by simp)]⟩
    have bR : Bld (since g.size) 5 (ItmC (since g.size)) (Ev.newRow g4 [.int .i64 x.stamp, .int .i64 x.after, .bool x.marker, c, p] 5 []) u (items.take i) := bu.kept (h' := Ev.newRow g4 [.int .i64 x.stamp, .int .i64 x.after, .bool x.marker, c, p] 5 []) (L := []) kall (by simp) (fun cs y _ q => ItmC.imp q (fun _ _ q => q) (keep_of kall.c (by simp)))
    have sc4 : SlR (since g.size) 5 (TgdC (since g.size)) g4 c x.chgs := by
      have h := SlTgd.imp (h' := g4) (ok' := since g1.size) b2.sl (fun _ _ q => q) (keep_of k34.c (by intro d hd; rw [List.mem_singleton.1 hd]; show ¬ g1.size ≤ _; omega))
      exact SlTgd.imp h (fun d _ q => by show g.size ≤ d; have : g1.size ≤ d := q; omega) (fun _ _ _ e => e)
    have sp4 : SlR (since g.size) 5 (PrtC (since g.size)) g4 p x.prts := SlPrt.imp b4.sl (fun d _ q => by show g.size ≤ d; have : g3.size ≤ d := q; omega) (fun _ _ _ e => e)
    refine Ans.next (bR.app (x := x) (bytes := 72) rfl (by simp; omega) (by show g.size ≤ _; simp; omega) (fun h' k cs y _ q => ItmC.imp q (fun _ _ q => q) (keep_of k (by simp))) (fun h' k => ⟨c, p, rfl, SlTgd.imp sc4 (fun _ _ q => q) (keep_of (kR.c.trans k) (by simp)), SlPrt.imp sp4 (fun _ _ q => q) (keep_of (kR.c.trans k) (by simp))⟩)) ?_
    rintro u5 g5 ⟨b5, k5, z5, f5, _⟩
    simp (disch := first | omega | (simp only [newRow_size, Array.size_setIfInBounds, Array.size_push]; done) | (simp only [newRow_size, Array.size_setIfInBounds, Array.size_push]; omega)) [r57_24, hw]
    refine ih (items.length - (i + 1)) _ _ (by omega) ⟨i + 1, u5, rfl, by omega, rfl, ⟨by have := k5.1; have := kall.1; omega, fun d hd _ => ?_⟩, by rw [take_snoc hx]; exact b5⟩
    rw [f5 d (by have := kall.1; omega) (bR.ne (by show ¬ g.size ≤ d; omega)), kall.get (by omega) (by simp), kg.get hd (by simp)]
  · have hii : i = items.length := by omega
    subst hii
    rw [List.take_length] at bu
    have hic : ¬ (items.length : Int) < (items.length : Int) := by omega
    simp (disch := first | omega | (simp only [newRow_size, Array.size_setIfInBounds, Array.size_push]; done) | (simp only [newRow_size, Array.size_setIfInBounds, Array.size_push]; omega)) [l57_25, r57_3, hl, hic, eqT, eqF, neT, neF, ltT, ltF, leT, leF, nltT, nltF, nleT, nleF, nneT, nneF, List.getElem?_cons_zero, List.getElem?_cons_succ, r57_26]
    subst hQ
    exact Ans.of ⟨kg, bu.sl⟩

end Go.Proofs.Ytkkagpchcefidaa

/- QueueOwn: a step, an answer, in colours. -/
set_option linter.unusedSimpArgs false
set_option linter.unusedVariables false
namespace Go.Proofs.Ytkkagpchcefidaa
open Go.Ev

theorem QAt.imp2 {ok ok' : Nat → Prop} {h : H} {b : Nat} {lk : Int} {r : Option Nat} {first : Nat} {q : Qm} (s : QAt ok h b lk r first q) (h1 : ∀ c, c < h.size → ok c → ok' c) (hb : ¬ ok' b) (hr : ∀ c, r = some c → ¬ ok' c) : QAt ok' h b lk r first q := by
  refine ⟨s.at', s.no, ?_, hb⟩
  intro c e
  obtain ⟨a1, a2, a3, a4, cs, a5, a6⟩ := s.yes c e
  exact ⟨a1, a2, a3, hr c e, cs, a5, a6.1, fun k x hx => ItmC.imp (a6.2 k x hx) h1 (fun _ _ _ e => e)⟩

theorem QAt.now2 {ok : Nat → Prop} {h : H} {b : Nat} {lk : Int} {r : Option Nat} {first : Nat} {q : Qm} (s : QAt ok h b lk r first q) : QAt (fun c => ok c ∧ c < h.size) h b lk r first q :=
  s.imp2 (fun c hc q => ⟨q, hc⟩) (fun q => s.okb q.1) (fun c e q => by
    obtain ⟨_, _, _, a4, _⟩ := s.yes c e
    exact a4 q.1)

theorem QAt.lts {ok : Nat → Prop} {h : H} {b : Nat} {lk : Int} {r : Nat} {first : Nat} {q : Qm} (s : QAt ok h b lk (some r) first q) : b < h.size ∧ r < h.size := by
  obtain ⟨_, _, _, _, cs, a5, _⟩ := s.yes r rfl
  exact ⟨lt_of_get s.at', lt_of_get a5⟩

theorem QAt.trC {κ κ' : Kp} {S : Col → Prop} {n : Nat} {g g' : H} {b : Nat} {r first : Nat} {q : Qm} (s : QAt (fun c => κ c = .qc n) g b 0 (some r) first q) (hb : κ b = .qs n) (hr : κ r = .qs n) (k : Ch κ S g g') (h1 : ¬ S (.qs n)) (h2 : ¬ S (.qc n)) (ag : Agr g.size κ κ') : QAt (fun c => κ' c = .qc n) g' b 0 (some r) first q := by
  obtain ⟨l1, l2⟩ := s.lts
  refine ⟨k.get s.at' (by rw [hb]; exact h1), by simp, ?_, by rw [ag b l1, hb]; simp⟩
  intro c e
  cases e
  obtain ⟨a1, a2, a3, a4, cs, a5, a6⟩ := s.yes r rfl
  exact ⟨a1, a2, a3, by rw [ag r l2, hr]; simp, cs, k.get a5 (by rw [hr]; exact h1), a6.1, fun i x hx => ItmC.imp (a6.2 i x hx) (fun c hc q => (ag c hc).trans q) (fun c cs q e => k.cel e (by rw [q]; exact h2))⟩

/-- A queue in colours. -/
structure QC (κ : Kp) (n : Nat) (g : H) (b r first : Nat) (q : Qm) : Prop where
  at' : QAt (fun c => κ c = .qc n) g b 0 (some r) first q
  kb : κ b = .qs n
  kr : κ r = .qs n
  good : q.Good
  few : FewI q.items

theorem QC.tr {κ κ' : Kp} {S : Col → Prop} {n : Nat} {g g' : H} {b r first : Nat} {q : Qm} (s : QC κ n g b r first q) (k : Ch κ S g g') (h1 : ¬ S (.qs n)) (h2 : ¬ S (.qc n)) (ag : Agr g.size κ κ') : QC κ' n g' b r first q :=
  ⟨s.at'.trC s.kb s.kr k h1 h2 ag, (ag b s.at'.lts.1).trans s.kb, (ag r s.at'.lts.2).trans s.kr, s.good, s.few⟩

def FewIt (x : Itm) : Prop := x.chgs.length ≤ 24 ∧ (∀ t ∈ x.chgs, t.tags.length ≤ 24) ∧ x.prts.length ≤ 24 ∧ ∀ t ∈ x.prts, t.nodes.length ≤ 24

theorem FewI.short {items : List Itm} (f : FewI items) : ShortI items := by
  obtain ⟨f1, f2⟩ := f
  refine ⟨by omega, fun x hx => ?_⟩
  obtain ⟨a1, a2, a3, a4⟩ := f2 x hx
  exact ⟨⟨by omega, fun t ht => by have := a2 t ht; omega⟩, ⟨by omega, fun t ht => by have := a4 t ht; omega⟩⟩

theorem FewI.next {q : Qm} (f : FewI q.items) (m : Int) : FewI (nextM q m) := by
  obtain ⟨f1, f2⟩ := f
  refine ⟨?_, fun x hx => f2 x (List.mem_of_mem_take hx)⟩
  unfold nextM
  rw [List.length_take]; omega

theorem fewM_chgs (x : Stp) : (fewM x).chgs.length ≤ 24 ∧ ∀ t ∈ (fewM x).chgs, t.tags.length ≤ 24 := by
  refine ⟨by simp [fewM]; omega, fun t ht => ?_⟩
  simp only [fewM] at ht
  obtain ⟨t', _, rfl⟩ := List.mem_map.1 ht
  simp [fewT]; omega
theorem fewM_prts (x : Stp) : (fewM x).prts.length ≤ 24 ∧ ∀ t ∈ (fewM x).prts, t.nodes.length ≤ 24 := by
  refine ⟨by simp [fewM]; omega, fun t ht => ?_⟩
  simp only [fewM] at ht
  obtain ⟨t', _, rfl⟩ := List.mem_map.1 ht
  simp [fewP]; omega

theorem fewM_short (x : Stp) : (fewM x).Short := by
  obtain ⟨a1, a2⟩ := fewM_chgs x
  obtain ⟨b1, b2⟩ := fewM_prts x
  exact ⟨⟨by omega, fun t ht => by have := a2 t ht; omega⟩, ⟨by omega, fun t ht => by have := b2 t ht; omega⟩⟩

theorem FewI.step {q : Qm} (f : FewI q.items) (g : q.Good) (x : Stp) : FewI (stepM q (fewM x)).items := by
  have gs := g.step (fewM x)
  refine ⟨by have := gs.len; have := gs.room; omega, fun y hy => ?_⟩
  obtain ⟨f1, f2⟩ := f
  unfold stepM at hy
  split at hy
  · rcases putM_cases q (fewM x).stamp (fewM x).chgs with h | ⟨h, _⟩
    · rw [h] at hy; exact f2 y hy
    · rw [h] at hy
      rcases List.mem_append.1 hy with hy | hy
      · exact f2 y hy
      · rw [List.mem_singleton.1 hy]
        obtain ⟨a1, a2⟩ := fewM_chgs x
        exact ⟨a1, a2, by simp, by simp⟩
  split at hy
  · rcases collM_cases q (fewM x).stamp (fewM x).prts with h | ⟨h, _⟩
    · rw [h] at hy; exact f2 y hy
    · rw [h] at hy
      rw [List.mem_singleton.1 hy]
      obtain ⟨a1, a2⟩ := fewM_prts x
      exact ⟨by simp, by simp, a1, a2⟩
  split at hy
  · exact f2 y (List.IsSuffix.mem hy (List.dropWhile_suffix _))
  · exact f2 y hy

def StepA (κ : Kp) (n : Nat) (g : H) (b r : Nat) (q' : Qm) (u : Value) (g2 : H) : Prop :=
  u = .tuple ⟨[]⟩ ∧ ∃ κ2 first', Agr g.size κ κ2 ∧ QC κ2 n g2 b r first' q' ∧ Ch κ (· = .qs n) g g2 ∧ ∀ c, g.size ≤ c → ∀ j kd i m, κ2 c ≠ .ans j kd i m

/-- The step itself, once few has been asked. -/
theorem stepA_spec {F : Nat} (hF : 17592186044440 ≤ F) {κ : Kp} {n N : Nat} {g g1 : H} {b r first : Nat} {q : Qm} (s : QC κ n g b r first q) (hb : N ≤ b) (hr : N ≤ r) {cs : List Value} {x : Stp} (sx : StpC (orNew (fun c => c < N) g.size) g1 cs (fewM x)) (k : Kept g g1 []) :
    Ans (cf F 23 [.pointer (some ⟨b, 0, none⟩), .agg ⟨cs⟩] g1) (StepA κ n g b r (stepM q (fewM x))) := by
  obtain ⟨l1, l2⟩ := s.at'.lts
  have y1 := k.1
  have a1 : Agr g.size κ (ext κ g.size .old) := Agr.ext (Nat.le_refl _)
  have n1 : ∀ c, g.size ≤ c → ext κ g.size .old c = .old := fun c hc => ext_ge hc
  generalize ext κ g.size .old = κ1 at a1 n1
  have s1 := s.tr (κ' := κ1) (Ch.of (S := no) k) (by simp [no]) (by simp [no]) a1
  have s2 : QAt (fun c => (κ1 c = .qc n ∧ c < g1.size) ∨ g1.size ≤ c) g1 b 0 (some r) first q := s1.at'.now2.imp2 (fun c _ q => .inl q) (by rw [s1.kb]; simp; omega) (by intro c e; cases e; rw [s1.kr]; simp; omega)
  refine (step_spec (F := F) hF s2 s.good sx (by simp; omega) (by intro c e; cases e; simp; omega) (fewM_short x) (fun c hc => .inr hc)).mono ?_
  rintro u g2 ⟨rfl, first', q2, k2⟩
  have y2 := k2.1
  have a2 : Agr g1.size κ1 (ext κ1 g1.size (.qc n)) := Agr.ext (Nat.le_refl _)
  have n2 : ∀ c, g1.size ≤ c → ext κ1 g1.size (.qc n) c = .qc n := fun c hc => ext_ge hc
  generalize ext κ1 g1.size (.qc n) = κ2 at a2 n2
  have c2 : Ch κ1 (· = .qs n) g1 g2 := Ch.ofL k2 (by
    intro c hc
    simp at hc
    rcases hc with rfl | rfl
    · exact s1.kb
    · exact s1.kr)
  refine ⟨rfl, κ2, first', a1.trans a2 y1, ⟨q2.imp2 (fun c hc q => ?_) (by rw [a2 b (by omega), s1.kb]; simp) (by intro c e; cases e; rw [a2 r (by omega), s1.kr]; simp), by rw [a2 b (by omega)]; exact s1.kb, by rw [a2 r (by omega)]; exact s1.kr, s.good.step _, s.few.step s.good x⟩, (Ch.of k).trans c2 a1, fun c hc j kd i m => ?_⟩
  · rcases q with q | q
    · rw [a2 c q.2]; exact q.1
    · exact n2 c q
  · by_cases h : c < g1.size
    · rw [a2 c h, n1 c hc]; simp
    · rw [n2 c (by omega)]; simp

def AnsA (κ : Kp) (n j : Nat) (g : H) (b r first : Nat) (q : Qm) (most : Int) (u : Value) (g2 : H) : Prop :=
  ∃ κ2, Agr g.size κ κ2 ∧ QC κ2 n g2 b r first q ∧ Ch κ (· = .qs n) g g2 ∧ (∀ c, g.size ≤ c → ∃ kd i m, κ2 c = .ans j kd i m) ∧ BldA (fun c => κ2 c = .ans j 0 0 0) 5 (ItmO κ2 j) g2 u (nextM q most).zipIdx

theorem answerA_spec {F : Nat} (hF : 17592186044430 ≤ F) {κ : Kp} {n j : Nat} {g : H} {b r first : Nat} {q : Qm} (s : QC κ n g b r first q) (most : Int) (hfr : ∀ c, c < g.size → ∀ kd i k, κ c ≠ .ans j kd i k) :
    Ans (cf F 20 [.pointer (some ⟨b, 0, none⟩), .int .i64 most] g) (AnsA κ n j g b r first q most) := by
  obtain ⟨l1, l2⟩ := s.at'.lts
  refine (NextA_spec (F := F) hF s.at'.now2 s.good s.few.short most κ j hfr).mono ?_
  rintro u g2 ⟨q2, k2, κ2, ag, nw, bl⟩
  refine ⟨κ2, ag, ⟨q2.imp2 (fun c hc q => (ag c q.2).trans q.1) (by rw [ag b l1, s.kb]; simp) (by intro c e; cases e; rw [ag r l2, s.kr]; simp), (ag b l1).trans s.kb, (ag r l2).trans s.kr, s.good, s.few⟩, Ch.ofL k2 (by intro c hc; rw [List.mem_singleton.1 hc]; exact s.kb), nw, bl⟩

/-- What an owned answer reads as. -/
theorem ItmO.c {κ : Kp} {j : Nat} {g : H} {v : Value} {items : List Itm} (s : BldA (fun c => κ c = .ans j 0 0 0) 5 (ItmO κ j) g v items.zipIdx) : SlR (fun _ => True) 5 (ItmC (fun _ => True)) g v items := by
  have h : BldA (fun _ => True) 5 (ItmC (fun _ => True)) g v items := s.to (Nat.le_refl _) (by simp) (fun _ _ _ => trivial) (fun _ _ e _ => e) (fun cs n x y hx hy q => by
    obtain ⟨h1, h2⟩ := zip_inv hx
    rw [h1] at hy
    cases hy
    obtain ⟨v, w, e, b, c⟩ := q
    refine ⟨v, w, e, ?_, ?_⟩
    · exact (b.to (ys := x.1.chgs) (R' := TgdC (fun _ => True)) (ok' := fun _ => True) (Nat.le_refl _) (by simp) (fun _ _ _ => trivial) (fun _ _ e _ => e) (fun cs n y z hy hz q => by
        obtain ⟨h3, _⟩ := zip_inv hy
        rw [h3] at hz
        cases hz
        obtain ⟨v, e, b⟩ := q
        exact ⟨v, e, b.sl.imp (fun _ _ _ => trivial) (fun _ _ _ q => q) (fun _ _ _ q => q)⟩)).sl
    · exact (c.to (ys := x.1.prts) (R' := PrtC (fun _ => True)) (ok' := fun _ => True) (Nat.le_refl _) (by simp) (fun _ _ _ => trivial) (fun _ _ e _ => e) (fun cs n y z hy hz q => by
        obtain ⟨h3, _⟩ := zip_inv hy
        rw [h3] at hz
        cases hz
        obtain ⟨v, e, b⟩ := q
        exact ⟨v, e, b.sl.imp (fun _ _ _ => trivial) (fun _ _ _ q => q) (fun _ _ _ q => q)⟩)).sl)
  exact h.sl

end Go.Proofs.Ytkkagpchcefidaa

/- QueueOwn: held, what is gathered. -/
set_option linter.unusedSimpArgs false
set_option linter.unusedVariables false
namespace Go.Proofs.Ytkkagpchcefidaa
open Go.Ev

abbrev ValC : H → List Value → Value → Prop := fun _ cs v => cs = [v]

structure HS (κ : Kp) (g : H) (n b r first : Nat) (q : Qm) (aV wV : Value) (A : List (Value × List Itm)) (Wv : List Value) : Prop where
  qc : QC κ n g b r first q
  al : BldA (fun c => κ c = .bk 2) 1 ValC g aV (A.map (·.1))
  wl : BldA (fun c => κ c = .bk 3) 1 ValC g wV Wv
  ans : ∀ (i : Nat) x, A[i]? = some x → BldA (fun c => κ c = .ans i 0 0 0) 5 (ItmO κ i) g x.1 x.2.zipIdx ∧ FewI x.2
  wn : ∀ (i : Nat) x w, A[i]? = some x → Wv[i]? = some w → SlR (fun c => κ c = .bk 4) 5 (ItmC (fun c => κ c = .bk 4)) g w x.2
  len : Wv.length = A.length
  fresh : ∀ c, c < g.size → ∀ j kd i m, κ c = .ans j kd i m → j < A.length

section
variable {κ κ' : Kp} {S : Col → Prop} {g g' : H} {n b r first : Nat} {q : Qm} {aV wV : Value} {A : List (Value × List Itm)} {Wv : List Value}

theorem ansTr (s : ∀ (i : Nat) x, A[i]? = some x → BldA (fun c => κ c = .ans i 0 0 0) 5 (ItmO κ i) g x.1 x.2.zipIdx ∧ FewI x.2) (k : Ch κ S g g') (hS : ∀ j kd i m, ¬ S (.ans j kd i m)) (ag : Agr g.size κ κ') :
    ∀ (i : Nat) x, A[i]? = some x → BldA (fun c => κ' c = .ans i 0 0 0) 5 (ItmO κ' i) g' x.1 x.2.zipIdx ∧ FewI x.2 := fun i x hx =>
  ⟨(s i x hx).1.tr k (hS _ _ _ _) ag (fun cs n y _ q => q.tr k (fun kd m _ => hS _ _ _ _) ag), (s i x hx).2⟩
theorem itmTr {t : Col} {w : Value} {xs : List Itm} (s : SlR (fun c => κ c = t) 5 (ItmC (fun c => κ c = t)) g w xs) (k : Ch κ S g g') (hS : ¬ S t) (ag : Agr g.size κ κ') : SlR (fun c => κ' c = t) 5 (ItmC (fun c => κ' c = t)) g' w xs :=
  SlItm.imp s (fun c hc q => (ag c hc).trans q) (fun c cs q e => k.cel e (by rw [q]; exact hS))
theorem wnTr (s : ∀ (i : Nat) x w, A[i]? = some x → Wv[i]? = some w → SlR (fun c => κ c = .bk 4) 5 (ItmC (fun c => κ c = .bk 4)) g w x.2) (k : Ch κ S g g') (hS : ¬ S (.bk 4)) (ag : Agr g.size κ κ') :
    ∀ (i : Nat) x w, A[i]? = some x → Wv[i]? = some w → SlR (fun c => κ' c = .bk 4) 5 (ItmC (fun c => κ' c = .bk 4)) g' w x.2 := fun i x w hx hw => itmTr (s i x w hx hw) k hS ag
theorem valTr {t : Col} {v : Value} {xs : List Value} (s : BldA (fun c => κ c = t) 1 ValC g v xs) (k : Ch κ S g g') (hS : ¬ S t) (ag : Agr g.size κ κ') : BldA (fun c => κ' c = t) 1 ValC g' v xs := s.tr k hS ag (fun _ _ _ _ q => q)
theorem freshTr {m : Nat} (s : ∀ c, c < g.size → ∀ j kd i k, κ c = .ans j kd i k → j < m) (ag : Agr g.size κ κ') (nw : ∀ c, g.size ≤ c → ∀ j kd i k, κ' c ≠ .ans j kd i k) : ∀ c, ∀ j kd i k, κ' c = .ans j kd i k → j < m := by
  intro c j kd i k e
  by_cases h : c < g.size
  · exact s c h j kd i k ((ag c h).symm.trans e)
  · exact absurd e (nw c (by omega) _ _ _ _)

theorem HS.step (s : HS κ g n b r first q aV wV A Wv) {q' : Qm} {u : Value} {g2 : H} (p : StepA κ n g b r q' u g2) : u = .tuple ⟨[]⟩ ∧ g.size ≤ g2.size ∧ ∃ κ2 first', HS κ2 g2 n b r first' q' aV wV A Wv ∧ Agr g.size κ κ2 ∧ Ch κ (· = .qs n) g g2 := by
  obtain ⟨rfl, κ2, first', ag, qc, ch, nw⟩ := p
  exact ⟨rfl, ch.1, κ2, first', ⟨qc, valTr s.al ch (by simp) ag, valTr s.wl ch (by simp) ag, ansTr s.ans ch (by simp) ag, wnTr s.wn ch (by simp) ag, s.len, fun c _ => freshTr s.fresh ag nw c⟩, ag, ch⟩
end

/-- The colours that change while answers are gathered. -/
def gath (n : Nat) : Col → Prop := fun c => c = .qs n ∨ c = .bk 2 ∨ c = .bk 3

def rdBody : ACode := (.seq (.region r33_11 [0, 1, 5, 6, 7, 8, 10]) (.seq (.region r33_12 [0, 1, 5, 6, 7, 8, 10]) (.region r33_13 [0, 1, 5, 6, 7, 8])))

set_option maxHeartbeats 2000000 in
theorem rdBody_spec {F : Nat} (hF : 17592186044450 ≤ F) {κ : Kp} {g : H} {n b r first : Nat} {q : Qm} {aV wV v : Value} {A : List (Value × List Itm)} {Wv : List Value} (s : HS κ g n b r first q aV wV A Wv) (hA : A.length ≤ 40) {i k : Nat} {most : Int} {re : Env}
    {kn kr : K} {ke : Nat → K} {Q : Value → H → Prop}
    (hkn : ∀ g' κ' l w aV' wV', HS κ' g' n b r first q aV' wV' (A ++ [(l, nextM q most)]) (Wv ++ [w]) → Agr g.size κ κ' → Ch κ (gath n) g g' →
      Ans (kn [(0, .pointer (some ⟨b, 0, none⟩)), (1, v), (5, aV'), (6, wV'), (7, .int .i64 i), (8, .int .i64 k)] g' []) Q) :
    Ans (evC F (cf F) rdBody kn ke kr ((0, .pointer (some ⟨b, 0, none⟩)) :: (1, v) :: (5, aV) :: (6, wV) :: (7, .int .i64 i) :: (8, .int .i64 k) :: (9, .int .i64 most) :: re) g []) Q := by
  simp (disch := first | omega | (simp only [newRow_size, Array.size_setIfInBounds, Array.size_push]; done) | (simp only [newRow_size, Array.size_setIfInBounds, Array.size_push]; omega)) [rdBody, r33_11, callV_fn]
  refine Ans.next (answerA_spec (F := F) (j := A.length) (by omega) s.qc most (fun c hc kd i k e => by have := s.fresh c hc _ _ _ _ e; omega)) ?_
  rintro l g1 ⟨κ1, ag1, qc1, ch1, nw1, bl1⟩
  have y1 := ch1.1
  have ol := bl1.sl.one
  have vl := bl1.sl.vc
  have hol := ol
  simp only [oneCell] at ol
  simp only [vcells] at vl
  have al1 := valTr s.al ch1 (by simp) ag1
  have wl1 := valTr s.wl ch1 (by simp) ag1
  have an1 := ansTr s.ans ch1 (by simp) ag1
  have wn1 := wnTr s.wn ch1 (by simp) ag1
  -- the list of answers
  simp (disch := first | omega | (simp only [newRow_size, Array.size_setIfInBounds, Array.size_push]; done) | (simp only [newRow_size, Array.size_setIfInBounds, Array.size_push]; omega)) [r33_12, vl, srcOf, ol]
  refine Ans.next (al1.app (R2 := ValC) (bytes := 24) l rfl (by simp; omega) (fun _ _ _ _ _ _ q => q) (fun _ _ => rfl)) ?_
  rintro aV2 g2 ⟨al2, ch2, _⟩
  have y2 := ch2.1
  have ag2 : Agr g1.size κ1 (ext κ1 g1.size (.bk 2)) := Agr.ext (Nat.le_refl _)
  have nw2 : ∀ c, g1.size ≤ c → ext κ1 g1.size (.bk 2) c = .bk 2 := fun c hc => ext_ge hc
  generalize ext κ1 g1.size (.bk 2) = κ2 at al2 ag2 nw2
  have qc2 := qc1.tr ch2 (by simp) (by simp) ag2
  have wl2 := valTr wl1 ch2 (by simp) ag2
  have an2 := ansTr an1 ch2 (by simp) ag2
  have wn2 := wnTr wn1 ch2 (by simp) ag2
  have bl2 := bl1.tr (R2 := ItmO κ2 A.length) ch2 (by simp) ag2 (fun cs n y _ q => q.tr ch2 (by simp) ag2)
  have few := s.qc.few.next most
  -- the copy
  simp (disch := first | omega | (simp only [newRow_size, Array.size_setIfInBounds, Array.size_push]; done) | (simp only [newRow_size, Array.size_setIfInBounds, Array.size_push]; omega)) [r33_13, callV_fn]
  refine Ans.next (copied_spec (F := F) (by omega) (ItmO.c bl2) few.short) ?_
  rintro w g3 ⟨k3, sw⟩
  have y3 := k3.1
  have ow := sw.one
  have vw := sw.vc
  simp only [oneCell] at ow
  simp only [vcells] at vw
  have ch3 : Ch κ2 no g2 g3 := Ch.of k3
  have ag3 : Agr g2.size κ2 (ext κ2 g2.size (.bk 4)) := Agr.ext (Nat.le_refl _)
  have nw3 : ∀ c, g2.size ≤ c → ext κ2 g2.size (.bk 4) c = .bk 4 := fun c hc => ext_ge hc
  generalize ext κ2 g2.size (.bk 4) = κ3 at ag3 nw3
  have sw3 : SlR (fun c => κ3 c = .bk 4) 5 (ItmC (fun c => κ3 c = .bk 4)) g3 w (nextM q most) := SlItm.imp sw (fun c _ q => nw3 c q) (fun _ _ _ e => e)
  have qc3 := qc2.tr ch3 (by simp [no]) (by simp [no]) ag3
  have al3 := valTr al2 ch3 (by simp [no]) ag3
  have wl3 := valTr wl2 ch3 (by simp [no]) ag3
  have an3 := ansTr an2 ch3 (by simp [no]) ag3
  have wn3 := wnTr wn2 ch3 (by simp [no]) ag3
  have bl3 := bl2.tr (R2 := ItmO κ3 A.length) ch3 (by simp [no]) ag3 (fun cs n y _ q => q.tr ch3 (by simp [no]) ag3)
  simp (disch := first | omega | (simp only [newRow_size, Array.size_setIfInBounds, Array.size_push]; done) | (simp only [newRow_size, Array.size_setIfInBounds, Array.size_push]; omega)) [vw, srcOf, ow]
  refine Ans.next (wl3.app (R2 := ValC) (bytes := 24) w rfl (by rw [s.len]; omega) (fun _ _ _ _ _ _ q => q) (fun _ _ => rfl)) ?_
  rintro wV4 g4 ⟨wl4, ch4, _⟩
  have ag4 : Agr g3.size κ3 (ext κ3 g3.size (.bk 3)) := Agr.ext (Nat.le_refl _)
  have nw4 : ∀ c, g3.size ≤ c → ext κ3 g3.size (.bk 3) c = .bk 3 := fun c hc => ext_ge hc
  generalize ext κ3 g3.size (.bk 3) = κ4 at wl4 ag4 nw4
  have qc4 := qc3.tr ch4 (by simp) (by simp) ag4
  have al4 := valTr al3 ch4 (by simp) ag4
  have an4 := ansTr an3 ch4 (by simp) ag4
  have wn4 := wnTr wn3 ch4 (by simp) ag4
  have bl4 := bl3.tr (R2 := ItmO κ4 A.length) ch4 (by simp) ag4 (fun cs n y _ q => q.tr ch4 (by simp) ag4)
  have sw4 := itmTr sw3 ch4 (by simp) ag4
  simp (disch := first | omega | (simp only [newRow_size, Array.size_setIfInBounds, Array.size_push]; done) | (simp only [newRow_size, Array.size_setIfInBounds, Array.size_push]; omega)) []
  refine hkn g4 κ4 l w aV2 wV4 ⟨qc4, by simpa using al4, wl4, ?_, ?_, by simp [s.len], ?_⟩ (ag1.trans (ag2.trans (ag3.trans ag4 y3) y2) y1) ?_
  · intro j x hx
    by_cases h : j < A.length
    · rw [List.getElem?_append_left h] at hx
      exact an4 j x hx
    · rw [List.getElem?_append_right (by omega)] at hx
      have h0 : j - A.length = 0 := by
        have := (List.getElem?_eq_some_iff.1 hx).1
        simp at this; omega
      rw [h0] at hx
      simp at hx
      subst hx
      have hj : j = A.length := by omega
      subst hj
      exact ⟨bl4, few⟩
  · intro j x w' hx hw'
    by_cases h : j < A.length
    · rw [List.getElem?_append_left h] at hx
      rw [List.getElem?_append_left (by rw [s.len]; exact h)] at hw'
      exact wn4 j x w' hx hw'
    · rw [List.getElem?_append_right (by omega)] at hx
      rw [List.getElem?_append_right (by rw [s.len]; omega)] at hw'
      have h0 : j - A.length = 0 := by
        have := (List.getElem?_eq_some_iff.1 hx).1
        simp at this; omega
      rw [h0] at hx
      rw [s.len, h0] at hw'
      simp at hx hw'
      subst hx hw'
      exact sw4
  · intro c hc j kd i' m e
    rw [List.length_append, List.length_singleton]
    by_cases h1 : c < g3.size
    · rw [ag4 c h1] at e
      by_cases h2 : c < g2.size
      · rw [ag3 c h2] at e
        by_cases h3 : c < g1.size
        · rw [ag2 c h3] at e
          by_cases h4 : c < g.size
          · rw [ag1 c h4] at e
            have := s.fresh c h4 _ _ _ _ e
            omega
          · obtain ⟨_, _, _, e'⟩ := nw1 c (by omega)
            rw [e'] at e
            injection e with e
            omega
        · rw [nw2 c (by omega)] at e; cases e
      · rw [nw3 c (by omega)] at e; cases e
    · rw [nw4 c (by omega)] at e; cases e
  · exact (ch1.weak (fun c h => .inl h)).trans ((ch2.weak (fun c h => .inr (.inl h))).trans ((ch3.weak (fun c h => h.elim)).trans (ch4.weak (fun c h => .inr (.inr h))) ag3) ag2) ag1

end Go.Proofs.Ytkkagpchcefidaa
