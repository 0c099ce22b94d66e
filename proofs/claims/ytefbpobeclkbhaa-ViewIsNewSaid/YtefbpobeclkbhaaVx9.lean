/- ViewIsNew: does each list hold its marks? -/
import Derived.Test.YtefbpobeclkbhaaVx8
set_option linter.unusedSimpArgs false
set_option linter.unusedVariables false
namespace Go.Ev

/-- Lists full of marks, and what they were grown to: as they are read. -/
structure Fam (w : Nat) (mk : Int → List Value) (ok : Nat → Prop) (g : H) (bv mv : Value) (ns : List Nat) (vs ms : List Value) : Prop where
  sb : SlR ok 1 ValC g bv vs
  sm : SlR ok 1 ValC g mv ms
  lv : vs.length = ns.length
  lm : ms.length = ns.length
  rd : ∀ (k n : Nat) v m, ns[k]? = some n → vs[k]? = some v → ms[k]? = some m → SlR ok w IdC g v (List.replicate n (mk ((k : Int) + 1))) ∧ SlR ok w IdC g m (List.replicate n (mk ((k : Int) + 1)) ++ List.replicate (gb k) (mk (-(k : Int) - 1)))

theorem Fam.kc {w : Nat} {mk : Int → List Value} {ok : Nat → Prop} {g g' : H} {bv mv : Value} {ns : List Nat} {vs ms : List Value} {L : List Nat} (s : Fam w mk ok g bv mv ns vs ms) (k : KeptC g g' L) (hL : ∀ b ∈ L, ¬ ok b) : Fam w mk ok g' bv mv ns vs ms :=
  ⟨s.sb.kc k hL (fun _ _ _ h => h), s.sm.kc k hL (fun _ _ _ h => h), s.lv, s.lm, fun j n v m h1 h2 h3 => ⟨(s.rd j n v m h1 h2 h3).1.kc k hL (fun _ _ _ h => h), (s.rd j n v m h1 h2 h3).2.kc k hL (fun _ _ _ h => h)⟩⟩

end Go.Ev
namespace Go.Proofs.Ytefbpobeclkbhaa
open Go.Ev

def standV : ACode := (.seq (.region r26_2 [0, 3, 4]) (.block 0 (.loop [0, 3, 4] l26_17)))

set_option maxHeartbeats 4000000 in
theorem standV_spec {F : Nat} {g : H} {bb : Nat} {bv mv bn mn : Value} {ns : List Nat} {vs ms : List Value} {ok : Nat → Prop} (hbb : hget g bb = some (.cells [bv, mv, bn, mn] 0 true [])) (s : Fam 3 vmk ok g bv mv ns vs ms) (hF : ns.length < F ∧ ∀ n ∈ ns, n + 100 < F) (hF2 : F < 2 ^ 62) {re : Env}
    {kn kr : K} {ke : Nat → K} {Q : Value → H → Prop}
    (hk : ∀ g' (e : Env), Kept g g' [] → Ans (kn ((0, .pointer (some ⟨bb, 0, none⟩)) :: (3, .bool true) :: e) g' []) Q) :
    Ans (evC F (cf F) standV kn ke kr ((0, .pointer (some ⟨bb, 0, none⟩)) :: (3, .bool true) :: re) g []) Q := by
  have hl := s.sb.len
  rw [s.lv] at hl
  simp (disch := first | omega | (simp only [newRow_size, Array.size_setIfInBounds, Array.size_push]; done) | (simp only [newRow_size, Array.size_setIfInBounds, Array.size_push]; omega)) [standV, r26_2]
  refine loop_rule (fun mm e g' => ∃ (k : Nat), mm = ns.length - k ∧ k ≤ ns.length ∧ e = [(0, .pointer (some ⟨bb, 0, none⟩)), (3, .bool true), (4, .int .i64 k)] ∧ Kept g g' []) ?_ _ ns.length _ _ hF.1 ⟨0, by omega, by omega, rfl, Kept.refl _ _⟩
  rintro mm e g' again ⟨k, rfl, hk', rfl, kg⟩ ih
  have hw : IntKind.i64.wrap ((k : Int) + 1) = ((k + 1 : Nat) : Int) := by rw [IntKind.wrap_i64]; omega
  have hbb' := (kg.get (lt_of_get hbb) (by simp)).trans hbb
  by_cases hlt : k < ns.length
  · obtain ⟨n, hn⟩ : ∃ n, ns[k]? = some n := ⟨_, List.getElem?_eq_getElem hlt⟩
    have hkc : (k : Int) < (ns.length : Int) := by omega
    have hFp := hF.2 n (List.mem_of_getElem? hn)
    have hgk : gb k ≤ 96 := gb_le k
    simp (disch := first | omega | (simp only [newRow_size, Array.size_setIfInBounds, Array.size_push]; done) | (simp only [newRow_size, Array.size_setIfInBounds, Array.size_push]; omega)) [l26_17, r26_3, hbb', hl, hkc, eqT, eqF, neT, neF, ltT, ltF, leT, leF, nltT, nltF, nleT, nleF, nneT, nneF, flipX, List.getElem?_cons_zero, List.getElem?_cons_succ, r26_4]
    refine loop_rule (fun mm e g'' => ∃ (i : Nat), mm = n + gb k - i ∧ i ≤ n + gb k ∧ e = [(0, .pointer (some ⟨bb, 0, none⟩)), (3, .bool true), (4, .int .i64 k), (5, .int .i64 i)] ∧ Kept g g'' []) ?_ _ (n + gb k) _ _ (by omega) ⟨0, by omega, by omega, rfl, kg⟩
    rintro mm e g'' again2 ⟨i, rfl, hi, rfl, kg2⟩ ih2
    have hw2 : IntKind.i64.wrap ((i : Int) + 1) = ((i + 1 : Nat) : Int) := by rw [IntKind.wrap_i64]; omega
    have hneg : IntKind.i64.wrap (IntKind.i64.wrap (0 - (k : Int)) - 1) = -(k : Int) - 1 := by
      rw [IntKind.wrap_i64, show IntKind.i64.wrap (0 - (k : Int)) = -(k : Int) by rw [IntKind.wrap_i64]; omega]; omega
    have hneg' : IntKind.i64.wrap (IntKind.i64.wrap (-(k : Int)) - 1) = -(k : Int) - 1 := by
      rw [← hneg, Int.zero_sub]
    have hw' : IntKind.i64.wrap ((k : Int) + 1) = (k : Int) + 1 := by rw [hw]; omega
    have hbb2 := (kg2.get (lt_of_get hbb) (by simp)).trans hbb
    have s2 := s.kc kg2.c (by simp)
    obtain ⟨v, hv⟩ : ∃ v, vs[k]? = some v := ⟨_, List.getElem?_eq_getElem (by have := s.lv; omega)⟩
    obtain ⟨m, hm⟩ : ∃ m, ms[k]? = some m := ⟨_, List.getElem?_eq_getElem (by have := s.lm; omega)⟩
    obtain ⟨r1, r2⟩ := s2.rd k n v m hn hv hm
    have l1 := r1.len
    have l2 := r2.len
    rw [List.length_replicate] at l1
    rw [List.length_append, List.length_replicate, List.length_replicate] at l2
    obtain ⟨b1, o1, c1, cs1, es1, lv1, an1, e1, _, hg1, hl1, hx1⟩ := s2.sb.at' hv
    obtain ⟨b2, o2, c2, cs2, es2, lv2, an2, e2, _, hg2, hl2, hx2⟩ := s2.sm.at' hm
    rw [s.lv] at e1
    rw [s.lm] at e2
    have q1 : cs1[o1 + k]? = some v := by
      have h := hx1
      rw [Nat.mul_one] at h
      have h3 : ((cs1.drop (o1 + k)).take 1)[0]? = some v := by rw [show (cs1.drop (o1 + k)).take 1 = [v] from h]; rfl
      rw [List.getElem?_take, if_pos (by omega), List.getElem?_drop] at h3
      simpa using h3
    have q2 : cs2[o2 + k]? = some m := by
      have h := hx2
      rw [Nat.mul_one] at h
      have h3 : ((cs2.drop (o2 + k)).take 1)[0]? = some m := by rw [show (cs2.drop (o2 + k)).take 1 = [m] from h]; rfl
      rw [List.getElem?_take, if_pos (by omega), List.getElem?_drop] at h3
      simpa using h3
    rw [Nat.mul_one] at hl1 hl2
    have t1 : List.take 1 (List.drop (o1 + k) cs1) = [v] := by have h := hx1; rw [Nat.mul_one] at h; exact h
    have t2 : List.take 1 (List.drop (o2 + k) cs2) = [m] := by have h := hx2; rw [Nat.mul_one] at h; exact h
    by_cases hlt2 : i < n + gb k
    · have hic : (i : Int) < ((n + gb k : Nat) : Int) := by omega
      by_cases hin : i < n
      · have hic2 : (i : Int) < (n : Int) := by omega
        obtain ⟨b3, o3, c3, cs3, es3, lv3, an3, e3, _, hg3, hl3, hx3⟩ := r1.at' (i := i) (x := vmk ((k : Int) + 1)) (by rw [List.getElem?_replicate, if_pos hin])
        obtain ⟨b4, o4, c4, cs4, es4, lv4, an4, e4, _, hg4, hl4, hx4⟩ := r2.at' (i := i) (x := vmk ((k : Int) + 1)) (by rw [List.getElem?_append_left (by simpa using hin), List.getElem?_replicate, if_pos hin])
        rw [List.length_replicate] at e3
        rw [List.length_append, List.length_replicate, List.length_replicate] at e4
        have hg1s := lt_of_get hg1
        have hg2s := lt_of_get hg2
        have hg3s := lt_of_get hg3
        have hg4s := lt_of_get hg4
        have hbbs := lt_of_get hbb2
        subst e1 e2 e3 e4
        simp only [RC, id, vmk] at hx3 hx4
        simp (disch := first | omega | (simp only [newRow_size, Array.size_setIfInBounds, Array.size_push]; done) | (simp only [newRow_size, Array.size_setIfInBounds, Array.size_push]; omega)) [l26_15, r26_5, r26_6, r26_7, r26_9, r26_10, r26_11, r26_12, r26_13, r26_14, hbb2, hg1, hg2, hl1, hl2, q1, q2, t1, t2, hlt, hic, hic2, hin, hlt2, eqT, eqF, neT, neF, ltT, ltF, leT, leF, nltT, nltF, nleT, nleF, nneT, nneF, flipX, List.getElem?_cons_zero, List.getElem?_cons_succ, hw, hw', hg3, hg4, hl3, hl4, hx3, hx4, hw2, hbbs, hg1s, hg2s, hg3s, hg4s]
        exact ih2 (n + gb k - (i + 1)) _ _ (by omega) ⟨i + 1, rfl, by omega, rfl, kg2.trans (rowKept _ _ _ _)⟩
      · have hic2 : ¬ (i : Int) < (n : Int) := by omega
        have hic3 : (n : Int) ≤ (i : Int) := by omega
        obtain ⟨b4, o4, c4, cs4, es4, lv4, an4, e4, _, hg4, hl4, hx4⟩ := r2.at' (i := i) (x := vmk (-(k : Int) - 1)) (by rw [List.getElem?_append_right (by simpa using hin), List.getElem?_replicate, if_pos (by simp; omega)])
        rw [List.length_append, List.length_replicate, List.length_replicate] at e4
        have hg1s := lt_of_get hg1
        have hg2s := lt_of_get hg2
        have hg4s := lt_of_get hg4
        have hbbs := lt_of_get hbb2
        subst e1 e2 e4
        simp only [RC, id, vmk] at hx4
        simp (disch := first | omega | (simp only [newRow_size, Array.size_setIfInBounds, Array.size_push]; done) | (simp only [newRow_size, Array.size_setIfInBounds, Array.size_push]; omega)) [l26_15, r26_5, r26_6, r26_7, r26_8, r26_9, r26_10, r26_11, r26_14, hbb2, hg1, hg2, hl1, hl2, q1, q2, t1, t2, hlt, hic, hic2, hic3, hin, hlt2, eqT, eqF, neT, neF, ltT, ltF, leT, leF, nltT, nltF, nleT, nleF, nneT, nneF, flipX, List.getElem?_cons_zero, List.getElem?_cons_succ, hw, hw', hneg, hneg', hg4, hl4, hx4, hw2, l1, hbbs, hg1s, hg2s, hg4s]
        exact ih2 (n + gb k - (i + 1)) _ _ (by omega) ⟨i + 1, rfl, by omega, rfl, kg2.trans (rowKept _ _ _ _)⟩
    · have hii : i = n + gb k := by omega
      subst hii
      have hnic : ¬ ((n + gb k : Nat) : Int) < ((n + gb k : Nat) : Int) := by omega
      subst e2
      simp (disch := first | omega | (simp only [newRow_size, Array.size_setIfInBounds, Array.size_push]; done) | (simp only [newRow_size, Array.size_setIfInBounds, Array.size_push]; omega)) [l26_15, r26_5, hbb2, hg2, hl2, q2, t2, hlt, l2, hnic, eqT, eqF, neT, neF, ltT, ltF, leT, leF, nltT, nltF, nleT, nleF, nneT, nneF, flipX, List.getElem?_cons_zero, List.getElem?_cons_succ, r26_16, hw]
      exact ih (ns.length - (k + 1)) _ _ (by omega) ⟨k + 1, rfl, by omega, rfl, kg2⟩
  · have hkk : k = ns.length := by omega
    subst hkk
    have hnk : ¬ (ns.length : Int) < (ns.length : Int) := by omega
    simp (disch := first | omega | (simp only [newRow_size, Array.size_setIfInBounds, Array.size_push]; done) | (simp only [newRow_size, Array.size_setIfInBounds, Array.size_push]; omega)) [l26_17, r26_3, hbb', hl, hnk, eqT, eqF, neT, neF, ltT, ltF, leT, leF, nltT, nltF, nleT, nleF, nneT, nneF, flipX, List.getElem?_cons_zero, List.getElem?_cons_succ]
    exact hk g' _ kg

end Go.Proofs.Ytefbpobeclkbhaa
