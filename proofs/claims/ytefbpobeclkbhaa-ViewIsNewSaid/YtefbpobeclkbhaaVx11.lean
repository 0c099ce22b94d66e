/- ViewIsNew: no two lists share memory. -/
import Derived.Test.YtefbpobeclkbhaaVx10
set_option linter.unusedSimpArgs false
set_option linter.unusedVariables false
namespace Go.Proofs.Ytefbpobeclkbhaa
open Go.Ev

theorem a26_cut : a26 = ⟨173, .seq (.region r26_0 [0]) (.seq (.region r26_1 [0, 3]) (.seq standV (.seq standN (.seq (.region r26_34 [2]) .ret)))), [.tmp 2]⟩ := rfl
theorem a38_cut : a38 = ⟨76, .seq fullV fullN, []⟩ := rfl
theorem a39_cut : a39 = ⟨112, .seq growV growN, []⟩ := rfl

theorem bookStands_spec {F : Nat} {g : H} {bb : Nat} {bv mv bn mn : Value} {nv nn : List Nat} {vs ms us ws : List Value} {ok ok' : Nat → Prop} (hbb : hget g bb = some (.cells [bv, mv, bn, mn] 0 true [])) (s : Fam 3 vmk ok g bv mv nv vs ms) (t : Fam 21 nmk ok' g bn mn nn us ws)
    (hv : nv.length ≤ 400 ∧ ∀ n ∈ nv, n ≤ 401) (hn : nn.length ≤ 400 ∧ ∀ n ∈ nn, n ≤ 401) (hF : 600 ≤ F) (hF2 : F < 2 ^ 40) :
    Ans (cf F 26 [.pointer (some ⟨bb, 0, none⟩)] g) fun v g' => v = .bool true ∧ Kept g g' [] := by
  obtain ⟨F, rfl⟩ : ∃ G, F = G + 1 := ⟨F - 1, by omega⟩
  rw [cf_step (a := a26) rfl rfl (by simp [a26])]
  simp (disch := first | omega | (simp only [newRow_size, Array.size_setIfInBounds, Array.size_push]; done) | (simp only [newRow_size, Array.size_setIfInBounds, Array.size_push]; omega)) [a26_cut, r26_0, r26_1]
  refine standV_spec hbb s ⟨by omega, fun n hm => by have := hv.2 n hm; omega⟩ (by omega) ?_
  intro g1 e1 k1
  try simp (disch := first | omega | (simp only [newRow_size, Array.size_setIfInBounds, Array.size_push]; done) | (simp only [newRow_size, Array.size_setIfInBounds, Array.size_push]; omega)) []
  refine standN_spec ((k1.get (lt_of_get hbb) (by simp)).trans hbb) (t.kc k1.c (by simp)) ⟨by omega, fun n hm => by have := hn.2 n hm; omega⟩ (by omega) ?_
  intro g2 e2 k2
  simp (disch := first | omega | (simp only [newRow_size, Array.size_setIfInBounds, Array.size_push]; done) | (simp only [newRow_size, Array.size_setIfInBounds, Array.size_push]; omega)) [r26_34]
  exact Ans.of ⟨rfl, k1.trans k2⟩

theorem disj_of {A B : List Nat} (nd : (A ++ B).Nodup) : A.Nodup ∧ B.Nodup ∧ ∀ c ∈ A, c ∉ B := by
  rw [List.nodup_append] at nd
  exact ⟨nd.1, nd.2.1, fun c h1 h2 => nd.2.2 c h1 c h2 rfl⟩

def FullPost (g g' : H) (Qv Qn : List (Nat × Nat)) : Prop := Kept g g' (Qv.map (·.1) ++ Qn.map (·.1)) ∧ (∀ (j : Nat) p, Qv[j]? = some p → hget g' p.1 = some (.cells (rep p.2 (vmk ((j : Int) + 1))) 3 true [])) ∧ ∀ (j : Nat) p, Qn[j]? = some p → hget g' p.1 = some (.cells (rep p.2 (nmk ((j : Int) + 1))) 21 true [])

def GrownPost (g g1 g' : H) (bb : Nat) (bv bn : Value) (Qv Qn : List (Nat × Nat)) (okv okn : Nat → Prop) : Prop := (∃ mv mn Ms Ns, hget g' bb = some (.cells [bv, mv, bn, mn] 0 true []) ∧
      Fam 3 vmk (fun c => g.size ≤ c ∨ okv c ∨ okn c ∨ c ∈ Qv.map (·.1) ++ Qn.map (·.1)) g' bv mv (Qv.map (·.2)) (Qv.map sv) Ms ∧ Fam 21 nmk (fun c => g.size ≤ c ∨ okv c ∨ okn c ∨ c ∈ Qv.map (·.1) ++ Qn.map (·.1)) g' bn mn (Qn.map (·.2)) (Qn.map sv) Ns) ∧
      g1.size ≤ g'.size ∧ ∀ c, c < g1.size → c ≠ bb → c ∉ Qv.map (·.1) ++ Qn.map (·.1) → hget g' c = hget g1 c

set_option maxHeartbeats 1000000 in
theorem apart_spec {F : Nat} {g : H} {bb : Nat} {bv bn : Value} {Qv Qn : List (Nat × Nat)} {okv okn : Nat → Prop} (hbb : hget g bb = some (.cells [bv, .slice none 0 0, bn, .slice none 0 0] 0 true []))
    (s : Bld okv 1 ValC g bv (Qv.map sv)) (t : Bld okn 1 ValC g bn (Qn.map sv)) (hov : ¬ okv bb) (hon : ¬ okn bb)
    (hQv : ∀ p ∈ Qv, ∃ cs, hget g p.1 = some (.cells cs 3 true []) ∧ cs.length = p.2 * 3) (hQn : ∀ p ∈ Qn, ∃ cs, hget g p.1 = some (.cells cs 21 true []) ∧ cs.length = p.2 * 21)
    (nd : (Qv.map (·.1) ++ Qn.map (·.1)).Nodup) (hbv : bb ∉ Qv.map (·.1)) (hbn : bb ∉ Qn.map (·.1)) (hnv : ∀ p ∈ Qv ++ Qn, ¬ okv p.1 ∧ ¬ okn p.1)
    (hv : Qv.length ≤ 400 ∧ ∀ p ∈ Qv, p.2 ≤ 401) (hn : Qn.length ≤ 400 ∧ ∀ p ∈ Qn, p.2 ≤ 401) (hF : 700 ≤ F) (hF2 : F < 2 ^ 40) :
    Ans (cf F 25 [.pointer (some ⟨bb, 0, none⟩)] g) fun v g' => v = .bool true ∧ GrownPost g g g' bb bv bn Qv Qn okv okn := by
  obtain ⟨ndv, ndn, dj⟩ := disj_of nd
  obtain ⟨F, rfl⟩ : ∃ G, F = G + 1 := ⟨F - 1, by omega⟩
  rw [cf_step (a := a25) rfl rfl (by simp [a25])]
  simp (disch := first | omega | (simp only [newRow_size, Array.size_setIfInBounds, Array.size_push]; done) | (simp only [newRow_size, Array.size_setIfInBounds, Array.size_push]; omega)) [a25, r25_0, r25_1]
  -- written full
  have full : Ans (cf F 38 [.pointer (some ⟨bb, 0, none⟩)] g) fun _ g' => FullPost g g' Qv Qn := by
    obtain ⟨F, rfl⟩ : ∃ G, F = G + 1 := ⟨F - 1, by omega⟩
    rw [cf_step (a := a38) rfl rfl (by simp [a38])]
    simp (disch := first | omega | (simp only [newRow_size, Array.size_setIfInBounds, Array.size_push]; done) | (simp only [newRow_size, Array.size_setIfInBounds, Array.size_push]; omega)) [a38_cut]
    refine fullV_spec hbb s hQv ndv hbv (fun p hp => (hnv p (by simp [hp])).1) ⟨by omega, fun p hp => by have := hv.2 p hp; omega⟩ (by omega) ?_
    intro g1 e1 k1 m1
    try simp (disch := first | omega | (simp only [newRow_size, Array.size_setIfInBounds, Array.size_push]; done) | (simp only [newRow_size, Array.size_setIfInBounds, Array.size_push]; omega)) []
    refine fullN_spec ((k1.get (lt_of_get hbb) hbv).trans hbb) (t.kept (h' := g1) k1 (by intro c hc; obtain ⟨p, hp, rfl⟩ := List.mem_map.1 hc; exact (hnv p (by simp [hp])).2) (fun _ _ _ q => q)) ?_ ndn hbn (fun p hp => (hnv p (by simp [hp])).2) ⟨by omega, fun p hp => by have := hn.2 p hp; omega⟩ (by omega) ?_
    · intro p hp
      obtain ⟨cs, h1, h2⟩ := hQn p hp
      exact ⟨cs, (k1.get (lt_of_get h1) (fun q => dj _ q (List.mem_map.2 ⟨p, hp, rfl⟩))).trans h1, h2⟩
    · intro g2 e2 k2 m2
      try simp (disch := first | omega | (simp only [newRow_size, Array.size_setIfInBounds, Array.size_push]; done) | (simp only [newRow_size, Array.size_setIfInBounds, Array.size_push]; omega)) []
      refine Ans.of ⟨(k1.weak (by intro c hc; simp only [List.mem_append]; exact .inl hc)).trans (k2.weak (by intro c hc; simp only [List.mem_append]; exact .inr hc)), ?_, m2⟩
      intro j p hp
      have h1 := m1 j p hp
      exact (k2.get (lt_of_get h1) (dj _ (List.mem_map.2 ⟨p, List.mem_of_getElem? hp, rfl⟩))).trans h1
  refine Ans.next full ?_
  rintro v1 g1 ⟨k1, m1, m2⟩
  have y1 := k1.1
  have hnb : bb ∉ Qv.map (·.1) ++ Qn.map (·.1) := by rw [List.mem_append]; rintro (h | h); exact hbv h; exact hbn h
  have hno : ∀ c ∈ Qv.map (·.1) ++ Qn.map (·.1), ¬ okv c ∧ ¬ okn c := by
    intro c hc
    rw [← List.map_append] at hc
    obtain ⟨p, hp, rfl⟩ := List.mem_map.1 hc
    exact hnv p hp
  have hbb1 := (k1.get (lt_of_get hbb) hnb).trans hbb
  have s1 := s.kept (h' := g1) k1 (fun c hc => (hno c hc).1) (fun _ _ _ q => q)
  have t1 := t.kept (h' := g1) k1 (fun c hc => (hno c hc).2) (fun _ _ _ q => q)
  simp (disch := first | omega | (simp only [newRow_size, Array.size_setIfInBounds, Array.size_push]; done) | (simp only [newRow_size, Array.size_setIfInBounds, Array.size_push]; omega)) [r25_2]
  -- grown
  have grow : Ans (cf F 39 [.pointer (some ⟨bb, 0, none⟩)] g1) fun _ g' => GrownPost g g1 g' bb bv bn Qv Qn okv okn := by
    obtain ⟨F, rfl⟩ : ∃ G, F = G + 1 := ⟨F - 1, by omega⟩
    rw [cf_step (a := a39) rfl rfl (by simp [a39])]
    simp (disch := first | omega | (simp only [newRow_size, Array.size_setIfInBounds, Array.size_push]; done) | (simp only [newRow_size, Array.size_setIfInBounds, Array.size_push]; omega)) [a39_cut]
    refine growV_spec hbb1 s1 hov m1 ndv hbv (fun p hp => (hnv p (by simp [hp])).1) ⟨by omega, by omega⟩ (by omega) (fun p hp => by have := hv.2 p hp; omega) ?_
    intro g2 mv Ms e2 hbb2 kc2 fr2 bm2 hM hMs
    have z2 := kc2.1
    have bbs := lt_of_get hbb1
    try simp (disch := first | omega | (simp only [newRow_size, Array.size_setIfInBounds, Array.size_push]; done) | (simp only [newRow_size, Array.size_setIfInBounds, Array.size_push]; omega)) []
    have t2 : Bld okn 1 ValC g2 bn (Qn.map sv) := by
      rcases t1 with t1 | ⟨b, cs, an, e, hk, hb, hl, hi⟩
      · exact .inl t1
      · exact .inr ⟨b, cs, an, e, hk, (fr2 b (lt_of_get hb) (fun q => hon (q ▸ hk)) (fun q => (hno b (by rw [List.mem_append]; exact .inl q)).2 hk)).trans hb, hl, hi⟩
    have m22 : ∀ (j : Nat) p, Qn[j]? = some p → hget g2 p.1 = some (.cells (rep p.2 (nmk ((j : Int) + 1))) 21 true []) := by
      intro j p hp
      have h1 := m2 j p hp
      have hpm := List.mem_of_getElem? hp
      exact (fr2 p.1 (lt_of_get h1) (fun q => hbn (List.mem_map.2 ⟨p, hpm, q⟩)) (fun q => dj _ q (List.mem_map.2 ⟨p, hpm, rfl⟩))).trans h1
    refine growN_spec hbb2 t2 hon m22 ndn hbn (fun p hp => (hnv p (by simp [hp])).2) ⟨by omega, by omega⟩ (by omega) (fun p hp => by have := hn.2 p hp; omega) ?_
    intro g3 mn Ns e3 hbb3 kc3 fr3 bm3 hN hNs
    have z3 := kc3.1
    try simp (disch := first | omega | (simp only [newRow_size, Array.size_setIfInBounds, Array.size_push]; done) | (simp only [newRow_size, Array.size_setIfInBounds, Array.size_push]; omega)) []
    refine Ans.of ⟨⟨mv, mn, Ms, Ns, hbb3, ?_, ?_⟩, by omega, ?_⟩
    · have f2 : Fam 3 vmk (fun c => g1.size ≤ c ∨ okv c ∨ c ∈ Qv.map (·.1)) g2 bv mv (Qv.map (·.2)) (Qv.map sv) Ms := by
        refine ⟨?_, bm2.sl.imp (fun _ _ q => .inl q) (fun _ _ _ q => q) (fun _ _ _ q => q), by simp, by simp [hM], ?_⟩
        · exact (s1.sl.kc kc2 (by intro c hc; rw [List.mem_singleton.1 hc]; exact hov) (fun _ _ _ q => q)).imp (fun _ _ q => .inr (.inl q)) (fun _ _ _ q => q) (fun _ _ _ q => q)
        · intro j n v m h1 h2 h3
          rw [List.getElem?_map] at h1 h2
          obtain ⟨p, hp, rfl⟩ := Option.map_eq_some_iff.1 h1
          rw [hp] at h2
          cases h2
          have hpm := List.mem_of_getElem? hp
          refine ⟨?_, (hMs j p m hp h3).imp (fun c _ q => by rcases q with q | q; exact .inl q; exact .inr (.inr (by rw [q]; exact List.mem_map.2 ⟨p, hpm, rfl⟩))) (fun _ _ _ q => q) (fun _ _ _ q => q)⟩
          have b0 : Bld (fun c => c = p.1) 3 IdC g1 (sv p) (List.replicate p.2 (vmk ((j : Int) + 1))) := sv_bld rfl rfl (m1 j p hp)
          exact (b0.sl.kc kc2 (by intro c hc; rw [List.mem_singleton.1 hc]; rintro rfl; exact hbv (List.mem_map.2 ⟨p, hpm, rfl⟩)) (fun _ _ _ q => q)).imp (fun c _ q => .inr (.inr (by rw [q]; exact List.mem_map.2 ⟨p, hpm, rfl⟩))) (fun _ _ _ q => q) (fun _ _ _ q => q)
      have f3 := f2.kc kc3 (by
        intro c hc
        rw [List.mem_singleton.1 hc]
        rintro (h | h | h)
        · omega
        · exact hov h
        · exact hbv h)
      have im : ∀ c, (g1.size ≤ c ∨ okv c ∨ c ∈ Qv.map (·.1)) → (g.size ≤ c ∨ okv c ∨ okn c ∨ c ∈ Qv.map (·.1) ++ Qn.map (·.1)) := by
        rintro c (h | h | h)
        · exact .inl (by omega)
        · exact .inr (.inl h)
        · exact .inr (.inr (.inr (by rw [List.mem_append]; exact .inl h)))
      exact ⟨f3.sb.imp (fun c _ q => im c q) (fun _ _ _ q => q) (fun _ _ _ q => q), f3.sm.imp (fun c _ q => im c q) (fun _ _ _ q => q) (fun _ _ _ q => q), f3.lv, f3.lm, fun j n v m h1 h2 h3 => ⟨(f3.rd j n v m h1 h2 h3).1.imp (fun c _ q => im c q) (fun _ _ _ q => q) (fun _ _ _ q => q), (f3.rd j n v m h1 h2 h3).2.imp (fun c _ q => im c q) (fun _ _ _ q => q) (fun _ _ _ q => q)⟩⟩
    · have f3 : Fam 21 nmk (fun c => g1.size ≤ c ∨ okn c ∨ c ∈ Qn.map (·.1)) g3 bn mn (Qn.map (·.2)) (Qn.map sv) Ns := by
        refine ⟨?_, bm3.sl.imp (fun _ _ q => .inl (Nat.le_trans z2 q)) (fun _ _ _ q => q) (fun _ _ _ q => q), by simp, by simp [hN], ?_⟩
        · exact (t2.sl.kc kc3 (by intro c hc; rw [List.mem_singleton.1 hc]; exact hon) (fun _ _ _ q => q)).imp (fun _ _ q => .inr (.inl q)) (fun _ _ _ q => q) (fun _ _ _ q => q)
        · intro j n v m h1 h2 h3
          rw [List.getElem?_map] at h1 h2
          obtain ⟨p, hp, rfl⟩ := Option.map_eq_some_iff.1 h1
          rw [hp] at h2
          cases h2
          have hpm := List.mem_of_getElem? hp
          refine ⟨?_, (hNs j p m hp h3).imp (fun c _ q => by rcases q with q | q; exact .inl (Nat.le_trans z2 q); exact .inr (.inr (by rw [q]; exact List.mem_map.2 ⟨p, hpm, rfl⟩))) (fun _ _ _ q => q) (fun _ _ _ q => q)⟩
          have b0 : Bld (fun c => c = p.1) 21 IdC g2 (sv p) (List.replicate p.2 (nmk ((j : Int) + 1))) := sv_bld rfl rfl (m22 j p hp)
          exact (b0.sl.kc kc3 (by intro c hc; rw [List.mem_singleton.1 hc]; rintro rfl; exact hbn (List.mem_map.2 ⟨p, hpm, rfl⟩)) (fun _ _ _ q => q)).imp (fun c _ q => .inr (.inr (by rw [q]; exact List.mem_map.2 ⟨p, hpm, rfl⟩))) (fun _ _ _ q => q) (fun _ _ _ q => q)
      have im : ∀ c, (g1.size ≤ c ∨ okn c ∨ c ∈ Qn.map (·.1)) → (g.size ≤ c ∨ okv c ∨ okn c ∨ c ∈ Qv.map (·.1) ++ Qn.map (·.1)) := by
        rintro c (h | h | h)
        · exact .inl (by omega)
        · exact .inr (.inr (.inl h))
        · exact .inr (.inr (.inr (by rw [List.mem_append]; exact .inr h)))
      exact ⟨f3.sb.imp (fun c _ q => im c q) (fun _ _ _ q => q) (fun _ _ _ q => q), f3.sm.imp (fun c _ q => im c q) (fun _ _ _ q => q) (fun _ _ _ q => q), f3.lv, f3.lm, fun j n v m h1 h2 h3 => ⟨(f3.rd j n v m h1 h2 h3).1.imp (fun c _ q => im c q) (fun _ _ _ q => q) (fun _ _ _ q => q), (f3.rd j n v m h1 h2 h3).2.imp (fun c _ q => im c q) (fun _ _ _ q => q) (fun _ _ _ q => q)⟩⟩
    · intro c hc hcb hcq
      rw [List.mem_append, not_or] at hcq
      rw [fr3 c (by omega) hcb hcq.2, fr2 c hc hcb hcq.1]
  refine Ans.next grow ?_
  rintro v2 g2 ⟨⟨mv, mn, Ms, Ns, hbb2, fv, fn⟩, y2, fr⟩
  simp (disch := first | omega | (simp only [newRow_size, Array.size_setIfInBounds, Array.size_push]; done) | (simp only [newRow_size, Array.size_setIfInBounds, Array.size_push]; omega)) [r25_3]
  refine Ans.next (bookStands_spec hbb2 fv fn ⟨by simpa using hv.1, fun n hm => ?_⟩ ⟨by simpa using hn.1, fun n hm => ?_⟩ (by omega) (by omega)) ?_
  · obtain ⟨p, hp, rfl⟩ := List.mem_map.1 hm
    exact hv.2 p hp
  · obtain ⟨p, hp, rfl⟩ := List.mem_map.1 hm
    exact hn.2 p hp
  · rintro v3 g3 ⟨rfl, k3⟩
    try simp (disch := first | omega | (simp only [newRow_size, Array.size_setIfInBounds, Array.size_push]; done) | (simp only [newRow_size, Array.size_setIfInBounds, Array.size_push]; omega)) []
    refine Ans.of ⟨rfl, ⟨mv, mn, Ms, Ns, (k3.get (lt_of_get hbb2) (by simp)).trans hbb2, fv.kc k3.c (by simp), fn.kc k3.c (by simp)⟩, by have := k3.1; omega, ?_⟩
    intro c hc hcb hcq
    rw [k3.get (by omega) (by simp), fr c (by omega) hcb hcq, k1.get hc hcq]

end Go.Proofs.Ytefbpobeclkbhaa
