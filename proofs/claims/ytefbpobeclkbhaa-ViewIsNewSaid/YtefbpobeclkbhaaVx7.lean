/- ViewIsNew: each list is grown. -/
import Derived.Test.YtefbpobeclkbhaaVx6
set_option linter.unusedSimpArgs false
set_option linter.unusedVariables false
namespace Go.Ev

/-- An element that is its own cells. -/
abbrev IdC : H → List Value → List Value → Prop := RC id

section
variable {α : Type} {f : α → List Value} {ok : Nat → Prop} {w : Nat} {g : H} {v : Value} {xs : List α}

/-- One element, made ahead, is put behind. -/
theorem Bld.rapq {bytes : Nat} (b : Bld ok w (RC f) g v xs) (x : α) (hw : (f x).length = w) (hl : (xs.length + 1) * bytes ≤ 2 ^ 47) (ho : ok (g.size + 1)) :
    Ans (appendTo (newRow g (f x) w []) w bytes v 1 (f x)) fun v' g' => Bld ok w (RC f) g' v' (xs ++ [x]) ∧ KeptC g g' [] ∧ ∀ c, c < g.size → ¬ ok c → hget g' c = hget g c := by
  have k := rowKept g (f x) w []
  have z : (newRow g (f x) w []).size = g.size + 1 := by simp
  have b' : Bld ok w (RC f) (newRow g (f x) w []) v xs := b.frame k (fun _ _ q => q)
  have bk : ∀ o n c c0, ¬ ok c0 → v ≠ .slice (some ⟨c0, o, none⟩) n c := fun o n c c0 h => b.ne (b := c0) h o n c
  generalize newRow g (f x) w [] = g1 at k z b' ⊢
  refine (b'.app (x := x) (new := f x) hw hl (by rw [z]; exact ho) (fun _ _ _ _ _ q => q) (fun _ _ => rfl)).mono ?_
  rintro v' g' ⟨b5, kc, z5, f5, _⟩
  exact ⟨b5, k.c.trans kc, fun c hc hn => (f5 c (by omega) (fun o n c' => bk o n c' c hn)).trans (k.get hc (by simp))⟩
end

theorem cel_kc {h h' : H} {L : List Nat} (k : KeptC h h' L) {b : Nat} {cs : List Value} (hn : b ∉ L) (e : cel h b = some cs) : cel h' b = some cs := (k.2 b (cel_lt e) hn).trans e

/-- A list full of one mark, of a known row. -/
theorem sv_bld {ok : Nat → Prop} {w : Nat} {g : H} {p : Nat × Nat} {m : List Value} (hm : m.length = w) (hk : ok p.1) (h : hget g p.1 = some (.cells (rep p.2 m) w true [])) : Bld ok w IdC g (sv p) (List.replicate p.2 m) := by
  refine .inr ⟨p.1, rep p.2 m, [], by simp [sv], hk, h, by rw [rep_len, hm]; simp, ?_⟩
  intro i x hx
  have hi := (List.getElem?_eq_some_iff.1 hx).1
  rw [List.length_replicate] at hi
  rw [List.getElem?_replicate, if_pos hi] at hx
  cases hx
  exact rep_at hm hi

/-- How much is put behind a list. -/
def gb (k : Nat) : Nat := if k < 64 then 96 else 2
theorem gb_le (k : Nat) : gb k ≤ 96 := by unfold gb; split <;> omega

end Go.Ev
namespace Go.Proofs.Ytefbpobeclkbhaa
open Go.Ev

theorem grownBy_eq {F : Nat} (hF : 1 ≤ F) (h : H) (k : Nat) : cf F 44 [.int .i64 (k : Int)] h = some (.int .i64 (gb k : Nat), h) := by
  obtain ⟨F, rfl⟩ : ∃ G, F = G + 1 := ⟨F - 1, by omega⟩
  rw [cf_step (a := a44) rfl rfl (by simp [a44])]
  unfold gb
  by_cases hk : k < 64
  · have hc : (k : Int) < 64 := by omega
    simp (disch := first | omega | (simp only [newRow_size, Array.size_setIfInBounds, Array.size_push]; done) | (simp only [newRow_size, Array.size_setIfInBounds, Array.size_push]; omega)) [a44, r44_0, r44_1, r44_2, hk, hc, eqT, eqF, neT, neF, ltT, ltF, leT, leF, nltT, nltF, nleT, nleF, nneT, nneF, flipX, List.getElem?_cons_zero, List.getElem?_cons_succ]
  · have hc : ¬ (k : Int) < 64 := by omega
    simp (disch := first | omega | (simp only [newRow_size, Array.size_setIfInBounds, Array.size_push]; done) | (simp only [newRow_size, Array.size_setIfInBounds, Array.size_push]; omega)) [a44, r44_0, r44_1, r44_3, hk, hc, eqT, eqF, neT, neF, ltT, ltF, leT, leF, nltT, nltF, nleT, nleF, nneT, nneF, flipX, List.getElem?_cons_zero, List.getElem?_cons_succ]

def growV : ACode := (.seq (.region r39_0 [0, 2]) (.block 0 (.loop [0, 2] l39_11)))

set_option maxHeartbeats 2000000 in
theorem growV_spec {F : Nat} {g : H} {bb : Nat} {bv bn mn : Value} {Qs : List (Nat × Nat)} {ok : Nat → Prop} (hbb : hget g bb = some (.cells [bv, .slice none 0 0, bn, mn] 0 true [])) (s : Bld ok 1 ValC g bv (Qs.map sv)) (hob : ¬ ok bb)
    (hQ : ∀ (j : Nat) p, Qs[j]? = some p → hget g p.1 = some (.cells (rep p.2 (vmk ((j : Int) + 1))) 3 true [])) (nd : (Qs.map (·.1)).Nodup) (hnb : bb ∉ Qs.map (·.1)) (hno : ∀ p ∈ Qs, ¬ ok p.1) (hF : Qs.length < F ∧ 100 < F) (hF2 : F < 2 ^ 40) (hq : ∀ p ∈ Qs, p.2 ≤ 2 ^ 38) {re : Env}
    {kn kr : K} {ke : Nat → K} {Q : Value → H → Prop}
    (hk : ∀ g' mv (Ms : List Value) (e : Env), hget g' bb = some (.cells [bv, mv, bn, mn] 0 true []) → KeptC g g' [bb] → (∀ c, c < g.size → c ≠ bb → c ∉ Qs.map (·.1) → hget g' c = hget g c) → Bld (fun c => g.size ≤ c) 1 ValC g' mv Ms → Ms.length = Qs.length →
      (∀ (j : Nat) p m, Qs[j]? = some p → Ms[j]? = some m → SlR (fun c => g.size ≤ c ∨ c = p.1) 3 IdC g' m (List.replicate p.2 (vmk ((j : Int) + 1)) ++ List.replicate (gb j) (vmk (-(j : Int) - 1)))) → Ans (kn ((0, .pointer (some ⟨bb, 0, none⟩)) :: e) g' []) Q) :
    Ans (evC F (cf F) growV kn ke kr ((0, .pointer (some ⟨bb, 0, none⟩)) :: re) g []) Q := by
  have hl := s.sl.len
  rw [List.length_map] at hl
  have hbs := lt_of_get hbb
  have ndi : ∀ (i j : Nat) p q, Qs[i]? = some p → Qs[j]? = some q → i ≠ j → p.1 ≠ q.1 := by
    intro i j p q hp hq hne e
    have h1 : (Qs.map (·.1))[i]? = some p.1 := by simp [hp]
    have h2 : (Qs.map (·.1))[j]? = some q.1 := by simp [hq]
    have hi := (List.getElem?_eq_some_iff.1 h1).1
    exact hne ((List.getElem?_inj hi nd).1 (by rw [h1, h2, e]))
  simp (disch := first | omega | (simp only [newRow_size, Array.size_setIfInBounds, Array.size_push]; done) | (simp only [newRow_size, Array.size_setIfInBounds, Array.size_push]; omega)) [growV, r39_0]
  refine loop_rule (fun mm e g' => ∃ (k : Nat) (mv : Value) (Ms : List Value), mm = Qs.length - k ∧ k ≤ Qs.length ∧ e = [(0, .pointer (some ⟨bb, 0, none⟩)), (2, .int .i64 k)] ∧ hget g' bb = some (.cells [bv, mv, bn, mn] 0 true []) ∧ KeptC g g' [bb] ∧
      (∀ c, c < g.size → c ≠ bb → (∀ (j : Nat) p, Qs[j]? = some p → j < k → c ≠ p.1) → hget g' c = hget g c) ∧ Bld (fun c => g.size ≤ c) 1 ValC g' mv Ms ∧ Ms.length = k ∧
      (∀ (j : Nat) p m, Qs[j]? = some p → Ms[j]? = some m → SlR (fun c => g.size ≤ c ∨ c = p.1) 3 IdC g' m (List.replicate p.2 (vmk ((j : Int) + 1)) ++ List.replicate (gb j) (vmk (-(j : Int) - 1))))) ?_ _ Qs.length _ _ hF.1
    ⟨0, _, [], by omega, by omega, rfl, hbb, KeptC.refl _ _, fun _ _ _ _ => rfl, Bld.nil _ _ _ _, rfl, fun j p m _ h => by simp at h⟩
  rintro mm e g' again ⟨k, mv, Ms, rfl, hk', rfl, hbb', kg, fr, bm, hM, hMs⟩ ih
  have hw : IntKind.i64.wrap ((k : Int) + 1) = ((k + 1 : Nat) : Int) := by rw [IntKind.wrap_i64]; omega
  have zg := kg.1
  by_cases hlt : k < Qs.length
  · obtain ⟨p, hp⟩ : ∃ p, Qs[k]? = some p := ⟨_, List.getElem?_eq_getElem hlt⟩
    have hpm := List.mem_of_getElem? hp
    have hkc : (k : Int) < (Qs.length : Int) := by omega
    have hpl := hq p hpm
    have hpb : p.1 ≠ bb := fun e => hnb (List.mem_map.2 ⟨p, hpm, e⟩)
    have hgk : gb k ≤ 96 := gb_le k
    obtain ⟨bl, csl, esl, lvl, anl, el, okl, hgl, hcl, hll⟩ := s.atV (i := k) (x := sv p) (by rw [List.getElem?_map, hp]; rfl)
    rw [List.length_map] at el
    subst el
    have hgls := lt_of_get hgl
    have hgl' : hget g' bl = some (.cells csl esl lvl anl) := (fr bl hgls (fun e => hob (e ▸ okl)) (fun j q hq _ e => hno q (List.mem_of_getElem? hq) (e ▸ okl))).trans hgl
    have hpq := (fr p.1 (lt_of_get (hQ k p hp)) hpb (fun j q hq hj => ndi k j p q hp hq (by omega))).trans (hQ k p hp)
    have hpgs := lt_of_get (hQ k p hp)
    have b0 : Bld (fun c => c = p.1 ∨ g'.size ≤ c) 3 IdC g' (sv p) (List.replicate p.2 (vmk ((k : Int) + 1))) := sv_bld rfl (.inl rfl) hpq
    have hneg : IntKind.i64.wrap (IntKind.i64.wrap (0 - (k : Int)) - 1) = -(k : Int) - 1 := by
      rw [IntKind.wrap_i64, show IntKind.i64.wrap (0 - (k : Int)) = -(k : Int) by rw [IntKind.wrap_i64]; omega]; omega
    have hneg' : IntKind.i64.wrap (IntKind.i64.wrap (-(k : Int)) - 1) = -(k : Int) - 1 := by
      rw [← hneg, Int.zero_sub]
    simp (disch := first | omega | (simp only [newRow_size, Array.size_setIfInBounds, Array.size_push]; done) | (simp only [newRow_size, Array.size_setIfInBounds, Array.size_push]; omega)) [l39_11, r39_1, hbb', hkc, eqT, eqF, neT, neF, ltT, ltF, leT, leF, nltT, nltF, nleT, nleF, nneT, nneF, flipX, List.getElem?_cons_zero, List.getElem?_cons_succ, r39_2, r39_3, r39_4, hgl', hcl, hll, hlt, hneg, hneg', sv]
    refine loop_rule (fun mm e g'' => ∃ (i : Nat) (v : Value), mm = gb k - i ∧ i ≤ gb k ∧ e = [(0, .pointer (some ⟨bb, 0, none⟩)), (2, .int .i64 k), (3, .int .i64 (-(k : Int) - 1)), (4, v), (5, .int .i64 ((p.2 + i : Nat) : Int))] ∧ KeptC g' g'' [] ∧ (∀ c, c < g'.size → c ≠ p.1 → hget g'' c = hget g' c) ∧
      Bld (fun c => c = p.1 ∨ g'.size ≤ c) 3 IdC g'' v (List.replicate p.2 (vmk ((k : Int) + 1)) ++ List.replicate i (vmk (-(k : Int) - 1)))) ?_ _ (gb k) _ _ (by omega) ⟨0, sv p, by omega, by omega, by simp [sv], KeptC.refl _ _, fun _ _ _ => rfl, by simpa using b0⟩
    rintro mm e g'' again2 ⟨i, v, rfl, hi, rfl, kc2, fr2, b2⟩ ih2
    have hw2 : IntKind.i64.wrap ((p.2 : Int) + (i : Int) + 1) = ((p.2 + (i + 1) : Nat) : Int) := by rw [IntKind.wrap_i64]; omega
    have hbb2 := (fr2 bb (lt_of_get hbb') (Ne.symm hpb)).trans hbb'
    have hgl2 := (fr2 bl (lt_of_get hgl') (by rintro rfl; exact hno p hpm okl)).trans hgl'
    have hw3 : IntKind.i64.wrap ((p.2 : Int) + (gb k : Int)) = ((p.2 + gb k : Nat) : Int) := by rw [IntKind.wrap_i64]; omega
    have hgbe := grownBy_eq (F := F) (by omega) g'' k
    by_cases hlt2 : i < gb k
    · have hic : ((p.2 + i : Nat) : Int) < ((p.2 + gb k : Nat) : Int) := by omega
      simp (disch := first | omega | (simp only [newRow_size, Array.size_setIfInBounds, Array.size_push]; done) | (simp only [newRow_size, Array.size_setIfInBounds, Array.size_push]; omega)) [l39_8, d39_5, dk_go, chks_nil, chks_cons, chkA_nil, chkA_cons, chk1_no, chk1_yes, chkV_some, hAt_eq, hOf_some, hOf_none, sameV, sameL, sameCell, hbb2, hgl2, hcl, hll, hlt, hgbe, hw3, hic, eqT, eqF, neT, neF, ltT, ltF, leT, leF, nltT, nltF, nleT, nleF, nneT, nneF, flipX, List.getElem?_cons_zero, List.getElem?_cons_succ, sv]
      simp (disch := first | omega | (simp only [newRow_size, Array.size_setIfInBounds, Array.size_push]; done) | (simp only [newRow_size, Array.size_setIfInBounds, Array.size_push]; omega)) [r39_6, srcOf]
      refine Ans.next (b2.rapq (bytes := 24) (vmk (-(k : Int) - 1)) rfl (by simp; omega) (.inr (by have := kc2.1; omega))) ?_
      rintro v' g3 ⟨b3, k3, f3⟩
      simp (disch := first | omega | (simp only [newRow_size, Array.size_setIfInBounds, Array.size_push]; done) | (simp only [newRow_size, Array.size_setIfInBounds, Array.size_push]; omega)) [r39_7, hw2]
      refine ih2 (gb k - (i + 1)) _ _ (by omega) ⟨i + 1, v', rfl, by omega, rfl, kc2.trans k3, fun c hc hn => (f3 c (by have := kc2.1; omega) (by rintro (h | h) <;> omega)).trans (fr2 c hc hn), ?_⟩
      rw [List.replicate_succ', ← List.append_assoc]
      exact b3
    · have hii : i = gb k := by omega
      subst hii
      have hnic : ¬ ((p.2 + gb k : Nat) : Int) < ((p.2 + gb k : Nat) : Int) := by omega
      have oA := b2.sl.one
      have vA := b2.sl.vc
      have zA := b2.sl.same
      simp only [oneCell] at oA
      simp only [vcells] at vA
      simp (disch := first | omega | (simp only [newRow_size, Array.size_setIfInBounds, Array.size_push]; done) | (simp only [newRow_size, Array.size_setIfInBounds, Array.size_push]; omega)) [l39_8, d39_5, dk_go, chks_nil, chks_cons, chkA_nil, chkA_cons, chk1_no, chk1_yes, chkV_some, hAt_eq, hOf_some, hOf_none, sameV, sameL, sameCell, hbb2, hgl2, hcl, hll, hlt, hgbe, hw3, hnic, eqT, eqF, neT, neF, ltT, ltF, leT, leF, nltT, nltF, nleT, nleF, nneT, nneF, flipX, List.getElem?_cons_zero, List.getElem?_cons_succ, sv]
      simp (disch := first | omega | (simp only [newRow_size, Array.size_setIfInBounds, Array.size_push]; done) | (simp only [newRow_size, Array.size_setIfInBounds, Array.size_push]; omega)) [r39_9, hbb2, vA, oA, srcOf]
      have zc2 := kc2.1
      have bm2 : Bld (fun c => g.size ≤ c) 1 ValC g'' mv Ms := by
        rcases bm with bm | ⟨mb, mcs, man, e1, e2, e3, e4, e5⟩
        · exact .inl bm
        · exact .inr ⟨mb, mcs, man, e1, e2, (fr2 mb (lt_of_get e3) (by omega)).trans e3, e4, e5⟩
      refine Ans.next (bm2.rapq (bytes := 24) v rfl (by simp; omega) (by show g.size ≤ _; omega)) ?_
      rintro mv' g3 ⟨bm3, k3, f3⟩
      have oM := bm3.sl.one
      have vM := bm3.sl.vc
      simp only [oneCell] at oM
      simp only [vcells] at vM
      have hbb3 := (f3 bb (by omega) (by show ¬ g.size ≤ bb; omega)).trans hbb2
      have hbb3s := lt_of_get hbb3
      simp (disch := first | omega | (simp only [newRow_size, Array.size_setIfInBounds, Array.size_push]; done) | (simp only [newRow_size, Array.size_setIfInBounds, Array.size_push]; omega)) [hbb3, oM, vM, hbb3s, r39_10, hw]
      have z3 := k3.1
      have k4 : KeptC g3 (g3.setIfInBounds bb (.cells [.slice (some ⟨bl, 0, none⟩) Qs.length Qs.length, mv', bn, mn] 0 true [])) [bb] := ⟨by simp, fun c hc hn => cel_congr (set_other (by simpa using Ne.symm (by simpa using hn)))⟩
      have k14 : KeptC g'' (g3.setIfInBounds bb (.cells [.slice (some ⟨bl, 0, none⟩) Qs.length Qs.length, mv', bn, mn] 0 true [])) [bb] := (k3.weak (by simp)).trans k4
      have k04 := (kc2.weak (M := [bb]) (by simp)).trans k14
      refine ih (Qs.length - (k + 1)) _ _ (by omega) ⟨k + 1, mv', Ms ++ [v], rfl, by omega, rfl, set_self rfl hbb3s, kg.trans k04, ?_, ?_, by simp [hM], ?_⟩
      · intro c hc hcb hn
        rw [set_other (Ne.symm hcb), f3 c (by omega) (by show ¬ g.size ≤ c; omega), fr2 c (by omega) (hn k p hp (by omega))]
        exact fr c hc hcb (fun j q hq hj => hn j q hq (by omega))
      · rcases bm3 with bm3 | ⟨mb, mcs, man, e1, e2, e3, e4, e5⟩
        · exact .inl bm3
        · exact .inr ⟨mb, mcs, man, e1, e2, by rw [set_other (by have : g.size ≤ mb := e2; omega)]; exact e3, e4, e5⟩
      · intro j q m hq hm
        by_cases hj : j < Ms.length
        · rw [List.getElem?_append_left hj] at hm
          refine (hMs j q m hq hm).kc k04 ?_ (fun _ _ _ h => h)
          intro c hc
          rw [List.mem_singleton.1 hc]
          rintro (h | h)
          · omega
          · exact hnb (List.mem_map.2 ⟨q, List.mem_of_getElem? hq, h.symm⟩)
        · rw [List.getElem?_append_right (by omega)] at hm
          have hj0 : j - Ms.length = 0 := by
            rcases Nat.eq_zero_or_pos (j - Ms.length) with h | h
            · exact h
            · rw [List.getElem?_eq_none (by simp; omega)] at hm; cases hm
          have hjk : j = k := by omega
          subst hjk
          rw [hj0] at hm
          simp at hm
          subst hm
          rw [hp] at hq
          cases hq
          refine ((b2.sl.imp (ok' := fun c => g.size ≤ c ∨ c = p.1) (R' := IdC) (fun c _ h => by rcases h with h | h; exact .inr h; exact .inl (by omega)) (fun _ _ _ h => h) (fun _ _ _ h => h)).kc k14 ?_ (fun _ _ _ h => h))
          intro c hc
          rw [List.mem_singleton.1 hc]
          rintro (h | h)
          · omega
          · exact hpb h.symm
  · have hkk : k = Qs.length := by omega
    subst hkk
    have hnk : ¬ (Qs.length : Int) < (Qs.length : Int) := by omega
    simp (disch := first | omega | (simp only [newRow_size, Array.size_setIfInBounds, Array.size_push]; done) | (simp only [newRow_size, Array.size_setIfInBounds, Array.size_push]; omega)) [l39_11, r39_1, hbb', hl, hnk, eqT, eqF, neT, neF, ltT, ltF, leT, leF, nltT, nltF, nleT, nleF, nneT, nneF, flipX, List.getElem?_cons_zero, List.getElem?_cons_succ]
    refine hk g' mv Ms _ hbb' kg ?_ bm hM hMs
    intro c hc hcb hn
    exact fr c hc hcb (fun j q hq _ e => hn (List.mem_map.2 ⟨q, List.mem_of_getElem? hq, e.symm⟩))

end Go.Proofs.Ytefbpobeclkbhaa
