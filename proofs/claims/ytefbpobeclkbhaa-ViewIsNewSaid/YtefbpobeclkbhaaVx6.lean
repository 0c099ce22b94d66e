/- ViewIsNew: each list of notes is written full. -/
import Derived.Test.YtefbpobeclkbhaaVx5
set_option linter.unusedSimpArgs false
set_option linter.unusedVariables false
namespace Go.Proofs.Ytefbpobeclkbhaa
open Go.Ev

/-- The mark of a note. -/
def nmk (n : Int) : List Value := [.int .i64 n, .int .i64 0, .int .i64 0, .int .i64 0, .int .i64 0, .int .i64 0, .int .i64 0, .int .i64 0, .int .i64 0, .int .i64 0, .int .i64 0, .slice none 0 0, .slice none 0 0, .int .i64 0, .int .i64 0, .int .i64 0, .slice none 0 0, .slice none 0 0, .slice none 0 0, .slice none 0 0, .string { data := #[] }]

def fullN : ACode := (.seq (.region r38_10 [0, 5]) (.block 4 (.loop [0, 5] l38_19)))

set_option maxHeartbeats 2000000 in
theorem fullN_spec {F : Nat} {g : H} {bb : Nat} {bv mv bn mn : Value} {Qs : List (Nat × Nat)} {ok : Nat → Prop} (hbb : hget g bb = some (.cells [bv, mv, bn, mn] 0 true [])) (s : Bld ok 1 ValC g bn (Qs.map sv))
    (hQ : ∀ p ∈ Qs, ∃ cs, hget g p.1 = some (.cells cs 21 true []) ∧ cs.length = p.2 * 21) (nd : (Qs.map (·.1)).Nodup) (hnb : bb ∉ Qs.map (·.1)) (hno : ∀ p ∈ Qs, ¬ ok p.1) (hF : Qs.length < F ∧ ∀ p ∈ Qs, p.2 < F) (hF2 : F < 2 ^ 62) {re : Env}
    {kn kr : K} {ke : Nat → K} {Q : Value → H → Prop}
    (hk : ∀ g' (e : Env), Kept g g' (Qs.map (·.1)) → (∀ (j : Nat) p, Qs[j]? = some p → hget g' p.1 = some (.cells (rep p.2 (nmk ((j : Int) + 1))) 21 true [])) → Ans (kn ((0, .pointer (some ⟨bb, 0, none⟩)) :: e) g' []) Q) :
    Ans (evC F (cf F) fullN kn ke kr ((0, .pointer (some ⟨bb, 0, none⟩)) :: re) g []) Q := by
  have hl := s.sl.len
  rw [List.length_map] at hl
  have ndi : ∀ (i j : Nat) p q, Qs[i]? = some p → Qs[j]? = some q → i ≠ j → p.1 ≠ q.1 := by
    intro i j p q hp hq hne e
    have h1 : (Qs.map (·.1))[i]? = some p.1 := by simp [hp]
    have h2 : (Qs.map (·.1))[j]? = some q.1 := by simp [hq]
    have hi := (List.getElem?_eq_some_iff.1 h1).1
    exact hne ((List.getElem?_inj hi nd).1 (by rw [h1, h2, e]))
  simp (disch := first | omega | (simp only [newRow_size, Array.size_setIfInBounds, Array.size_push]; done) | (simp only [newRow_size, Array.size_setIfInBounds, Array.size_push]; omega)) [fullN, r38_10]
  refine loop_rule (fun mm e g' => ∃ (k : Nat), mm = Qs.length - k ∧ k ≤ Qs.length ∧ e = [(0, .pointer (some ⟨bb, 0, none⟩)), (5, .int .i64 k)] ∧ Kept g g' (Qs.map (·.1)) ∧ (∀ (j : Nat) p, Qs[j]? = some p → j < k → hget g' p.1 = some (.cells (rep p.2 (nmk ((j : Int) + 1))) 21 true [])) ∧ (∀ (j : Nat) p, Qs[j]? = some p → k ≤ j → hget g' p.1 = hget g p.1)) ?_ _ Qs.length _ _ hF.1 ⟨0, by omega, by omega, rfl, Kept.refl _ _, by omega, fun _ _ _ _ => rfl⟩
  rintro mm e g' again ⟨k, rfl, hk', rfl, kg, hdone, hleft⟩ ih
  have hw : IntKind.i64.wrap ((k : Int) + 1) = ((k + 1 : Nat) : Int) := by rw [IntKind.wrap_i64]; omega
  have hbb' := (kg.get (lt_of_get hbb) hnb).trans hbb
  by_cases hlt : k < Qs.length
  · obtain ⟨p, hp⟩ : ∃ p, Qs[k]? = some p := ⟨_, List.getElem?_eq_getElem hlt⟩
    have hpm := List.mem_of_getElem? hp
    have hkc : (k : Int) < (Qs.length : Int) := by omega
    have hFp := hF.2 p hpm
    have s' := s.kept (h' := g') kg (L := Qs.map (·.1)) (by intro c hc; obtain ⟨p, hp, rfl⟩ := List.mem_map.1 hc; exact hno p hp) (fun _ _ _ q => q)
    obtain ⟨bl, csl, esl, lvl, anl, el, _, hgl, hcl, hll⟩ := s'.atV (i := k) (x := sv p) (by rw [List.getElem?_map, hp]; rfl)
    rw [List.length_map] at el
    obtain ⟨cs, hcs, hcsl⟩ := hQ p hpm
    have hbl : ¬ bl = p.1 := by
      rintro rfl
      rw [hleft k p hp (Nat.le_refl _), hcs] at hgl
      rcases s' with ⟨e1, _⟩ | ⟨b2, cs2, an2, e2, hk2, _⟩
      · rw [e1] at el; cases el
      · rw [e2] at el
        injection el with el
        injection el with el
        injection el with el _ _
        exact hno p hpm (el ▸ hk2)
    subst el
    have hleft' := hleft k p hp (Nat.le_refl _)
    simp (disch := first | omega | (simp only [newRow_size, Array.size_setIfInBounds, Array.size_push]; done) | (simp only [newRow_size, Array.size_setIfInBounds, Array.size_push]; omega)) [l38_19, r38_11, hbb', hkc, eqT, eqF, neT, neF, ltT, ltF, leT, leF, nltT, nltF, nleT, nleF, nneT, nneF, flipX, List.getElem?_cons_zero, List.getElem?_cons_succ, r38_12]
    refine loop_rule (fun mm e g'' => ∃ (i : Nat), mm = p.2 - i ∧ i ≤ p.2 ∧ e = [(0, .pointer (some ⟨bb, 0, none⟩)), (5, .int .i64 k), (6, .int .i64 i)] ∧ Kept g' g'' [p.1] ∧ hget g'' p.1 = some (.cells (rep i (nmk ((k : Int) + 1)) ++ cs.drop (i * 21)) 21 true [])) ?_ _ p.2 _ _ hFp ⟨0, by omega, by omega, rfl, Kept.refl _ _, by simpa [rep_zero] using hleft'.trans hcs⟩
    rintro mm e g'' again2 ⟨i, rfl, hi, rfl, kg2, hgp⟩ ih2
    have hw2 : IntKind.i64.wrap ((i : Int) + 1) = ((i + 1 : Nat) : Int) := by rw [IntKind.wrap_i64]; omega
    have hbb2 := (kg2.get (lt_of_get hbb') (by rw [List.mem_singleton]; rintro rfl; exact hnb (List.mem_map.2 ⟨p, hpm, rfl⟩))).trans hbb'
    have hgl2 := (kg2.get (lt_of_get hgl) (by rw [List.mem_singleton]; exact hbl)).trans hgl
    have hgps := lt_of_get hgp
    by_cases hlt2 : i < p.2
    · have hic : (i : Int) < (p.2 : Int) := by omega
      have hle : i * 21 + 21 ≤ cs.length := by omega
      have hlen : (rep i (nmk ((k : Int) + 1))).length = i * 21 := by rw [rep_len]; rfl
      have hle' : i * 21 + 21 ≤ (rep i (nmk ((k : Int) + 1)) ++ cs.drop (i * 21)).length := by rw [List.length_append, hlen, List.length_drop]; omega
      have hput := rep_put (w := 21) (i := i) (m := nmk ((k : Int) + 1)) (cs := cs) rfl hle
      obtain ⟨R, hR⟩ : ∃ R, R = rep i (nmk ((k : Int) + 1)) ++ cs.drop (i * 21) := ⟨_, rfl⟩
      rw [← hR] at hput hgp hle'
      simp only [nmk] at hput
      have hw' : IntKind.i64.wrap ((k : Int) + 1) = (k : Int) + 1 := by rw [hw]; omega
      simp (disch := first | omega | (simp only [newRow_size, Array.size_setIfInBounds, Array.size_push]; done) | (simp only [newRow_size, Array.size_setIfInBounds, Array.size_push]; omega)) [l38_17, r38_13, r38_14, r38_15, r38_16, hbb2, hgl2, hcl, hll, hlt, sv, hic, hlt2, eqT, eqF, neT, neF, ltT, ltF, leT, leF, nltT, nltF, nleT, nleF, nneT, nneF, flipX, List.getElem?_cons_zero, List.getElem?_cons_succ, hw, hw', hw2, hgp, hle', hgps]
      refine ih2 (p.2 - (i + 1)) _ _ (by omega) ⟨i + 1, rfl, by omega, rfl, ?_, ?_⟩
      · exact ⟨by simpa using kg2.1, fun c hc hn => by
          rw [set_other (fun e => hn (by rw [← e]; simp))]
          exact kg2.2 c hc hn⟩
      · simp only [nmk]
        rw [set_self rfl hgps]
        simpa using hput
    · have hii : i = p.2 := by omega
      subst hii
      have hnic : ¬ (p.2 : Int) < (p.2 : Int) := by omega
      simp (disch := first | omega | (simp only [newRow_size, Array.size_setIfInBounds, Array.size_push]; done) | (simp only [newRow_size, Array.size_setIfInBounds, Array.size_push]; omega)) [l38_17, r38_13, hbb2, hgl2, hcl, hll, hlt, sv, hnic, eqT, eqF, neT, neF, ltT, ltF, leT, leF, nltT, nltF, nleT, nleF, nneT, nneF, flipX, List.getElem?_cons_zero, List.getElem?_cons_succ, r38_18, hw]
      refine ih (Qs.length - (k + 1)) _ _ (by omega) ⟨k + 1, rfl, by omega, rfl, kg.trans (kg2.weak (by intro c hc; rw [List.mem_singleton.1 hc]; exact List.mem_map.2 ⟨p, hpm, rfl⟩)), ?_, ?_⟩
      · intro j q hq hj
        by_cases hjk : j = k
        · subst hjk
          rw [hp] at hq
          cases hq
          rw [hgp, List.drop_eq_nil_of_le (by omega), List.append_nil]
        · rw [kg2.get (lt_of_get (hdone j q hq (by omega))) (by rw [List.mem_singleton]; exact ndi j k q p hq hp hjk)]
          exact hdone j q hq (by omega)
      · intro j q hq hj
        obtain ⟨cq, hcq, _⟩ := hQ q (List.mem_of_getElem? hq)
        have h1 := hleft j q hq (by omega)
        rw [kg2.get (lt_of_get (h1.trans hcq)) (by rw [List.mem_singleton]; exact ndi j k q p hq hp (by omega))]
        exact h1
  · have hkk : k = Qs.length := by omega
    subst hkk
    have hnk : ¬ (Qs.length : Int) < (Qs.length : Int) := by omega
    simp (disch := first | omega | (simp only [newRow_size, Array.size_setIfInBounds, Array.size_push]; done) | (simp only [newRow_size, Array.size_setIfInBounds, Array.size_push]; omega)) [l38_19, r38_11, hbb', hl, hnk, eqT, eqF, neT, neF, ltT, ltF, leT, leF, nltT, nltF, nleT, nleF, nneT, nneF, flipX, List.getElem?_cons_zero, List.getElem?_cons_succ]
    exact hk g' _ kg (fun j p hp => hdone j p hp (List.getElem?_eq_some_iff.1 hp).1)

end Go.Proofs.Ytefbpobeclkbhaa
