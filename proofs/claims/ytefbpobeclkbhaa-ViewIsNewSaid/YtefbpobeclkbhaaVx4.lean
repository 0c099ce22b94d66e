/- ViewIsNew: all that was answered is as it was. -/
import Derived.Test.YtefbpobeclkbhaaVx3
set_option linter.unusedSimpArgs false
set_option linter.unusedVariables false
namespace Go.Proofs.Ytefbpobeclkbhaa
open Go.Ev

theorem VE.Ok.sv {κ : Nat → Nat} {g : H} {e : VE} (s : e.Ok κ g) : SlV g e.v e.vs := .inr ⟨e.q, true, [], s.ev, s.hq⟩
theorem VE.Ok.sc {κ : Nat → Nat} {g : H} {e : VE} (s : e.Ok κ g) : SlV g e.cw e.vs := by
  obtain ⟨cq, lv, an, c1, c2, _⟩ := s.cp
  exact .inr ⟨cq, lv, an, c1, c2⟩

def vCmp : ACode := (.seq (.region r10_26 [6, 8, 9, 10, 15]) (.block 4 (.loop [6, 8, 9, 10, 15] l10_31)))

set_option maxHeartbeats 4000000 in
theorem vCmp_spec {F : Nat} (hF : 1100 ≤ F) {N : Nat} {κ : Nat → Nat} {g : H} {b : Nat} {r : Option Nat} {x : Sv} {bb : Nat} {bv bn wv pv : Value} {T : List VE} (s : S1 N κ g b r x bb bv bn wv pv T) (hT : T.length ≤ 322) (hp : Pairs T) {sv : Value} {re : Env}
    {kn kr : K} {ke : Nat → K} {Q : Value → H → Prop}
    (hk : ∀ g' (e : Env), Kept g g' [] → Ans (kn ((6, .pointer (some ⟨b, 0, none⟩)) :: (8, .pointer (some ⟨bb, 0, none⟩)) :: (9, wv) :: (10, pv) :: e) g' []) Q) :
    Ans (evC F (cf F) vCmp kn ke kr ((1, sv) :: (6, .pointer (some ⟨b, 0, none⟩)) :: (8, .pointer (some ⟨bb, 0, none⟩)) :: (9, wv) :: (10, pv) :: re) g []) Q := by
  have hlw := s.rW.sl.len
  rw [List.length_map] at hlw
  simp (disch := first | omega | (simp only [newRow_size, Array.size_setIfInBounds, Array.size_push]; done) | (simp only [newRow_size, Array.size_setIfInBounds, Array.size_push]; omega)) [vCmp, r10_26]
  refine loop_rule (fun mm e g' => ∃ (i : Nat), mm = T.length - i ∧ i ≤ T.length ∧ e = [(6, .pointer (some ⟨b, 0, none⟩)), (8, .pointer (some ⟨bb, 0, none⟩)), (9, wv), (10, pv), (15, .int .i64 i)] ∧ Kept g g' []) ?_ _ T.length _ _ (by omega) ⟨0, by omega, by omega, rfl, Kept.refl _ _⟩
  rintro mm e g' again ⟨i, rfl, hi, rfl, kg⟩ ih
  have hw : IntKind.i64.wrap ((i : Int) + 1) = ((i + 1 : Nat) : Int) := by rw [IntKind.wrap_i64]; omega
  by_cases hlt : i < T.length
  · have C : Cf κ [] g g' := Cf.of kg
    have ag := Agr.refl g.size κ
    obtain ⟨e, he⟩ : ∃ e, T[i]? = some e := ⟨_, List.getElem?_eq_getElem hlt⟩
    obtain ⟨j, hj⟩ : ∃ j, j = i / 2 * 2 := ⟨_, rfl⟩
    have hj2 : j < T.length := by omega
    obtain ⟨e0, he0⟩ : ∃ e0, T[j]? = some e0 := ⟨_, List.getElem?_eq_getElem hj2⟩
    have hvs : e.vs = e0.vs := by
      rcases Nat.mod_two_eq_zero_or_one i with h | h
      · have : j = i := by omega
        rw [this, he] at he0
        cases he0; rfl
      · have h1 : 2 * (i / 2) = j := by omega
        have h2 : 2 * (i / 2) + 1 = i := by omega
        exact (hp (i / 2) e0 e (by rw [h1]; exact he0) (by rw [h2]; exact he)).symm
    have ok := (s.ent e (List.mem_of_getElem? he)).tr C (by decide) (by decide) ag
    have ok0 := (s.ent e0 (List.mem_of_getElem? he0)).tr C (by decide) (by decide) ag
    have bat := C.get s.bat (by simp)
    have rA := s.rA.tr C (by decide) ag
    have rB := s.rB.tr C (by decide) ag
    have rW := s.rW.tr C (by decide) ag
    have rP := s.rP.tr C (by decide) ag
    obtain ⟨ba, csa, esa, lva, ana, ea, _, hga, ha, hla⟩ := rA.atV (i := i) (x := e.v) (by rw [List.getElem?_map, he]; rfl)
    obtain ⟨bw, csw, esw, lvw, anw, ew, _, hgw, haw, hlaw⟩ := rW.atV (i := i) (x := e.cw) (by rw [List.getElem?_map, he]; rfl)
    obtain ⟨bw0, csw0, esw0, lvw0, anw0, ew0, _, hgw0, haw0, hlaw0⟩ := rW.atV (i := j) (x := e0.cw) (by rw [List.getElem?_map, he0]; rfl)
    rw [ew] at ew0
    injection ew0 with ew0 _ _
    injection ew0 with ew0
    injection ew0 with ew0 _ _
    subst ew0
    rw [hgw] at hgw0
    injection hgw0 with hgw0
    injection hgw0 with hgw0 _ _ _
    subst hgw0
    obtain ⟨bn', csn, esn, lvn, ann, en, _, hgn, han, hlan⟩ := rB.atV (i := i) (x := e.nv) (by rw [List.getElem?_map, he]; rfl)
    obtain ⟨bp, op, cp, csp, esp, lvp, anp, ep, _, hgp, hlep, hpp⟩ := rP.sl.at' (i := i) (x := e.w) (by rw [List.getElem?_map, he]; rfl)
    have hpp' : (csp.drop (op + i * 3)).take 3 = [.int .i64 e.w.num, .int .i64 e.w.pri, .int .i64 e.w.bak] := hpp
    rw [List.length_map] at ea ew en ep
    have hgas := lt_of_get hga
    have hgws := lt_of_get hgw
    have hgns := lt_of_get hgn
    have hgps := lt_of_get hgp
    have bats := lt_of_get bat
    have hnq := ok.hn
    have hnqs := lt_of_get hnq
    have v1 := sameViews_spec (F := F) (by omega) ok.sv ok.sc (by have := ok.le; omega)
    have v2 := sameViews_spec (F := F) (by omega) ok.sc (by rw [hvs]; exact ok0.sc) (by have := ok.le; omega)
    have hic : (i : Int) < (T.length : Int) := by omega
    have hqq : IntKind.i64.wrap (IntKind.i64.wrap ((i : Int) / 2) * 2) = (j : Int) := by
      rw [show IntKind.i64.wrap ((i : Int) / 2) = (i : Int) / 2 by rw [IntKind.wrap_i64]; omega, IntKind.wrap_i64]
      omega
    have hnl : (noteC 22 e.w).length = 21 := rfl
    have hen := ok.en
    rw [ea, en] at bat
    rw [ew, ep] at ih ⊢
    rw [hen] at han
    simp (disch := first | omega | (simp only [newRow_size, Array.size_setIfInBounds, Array.size_push]; done) | (simp only [newRow_size, Array.size_setIfInBounds, Array.size_push]; omega)) [l10_31, r10_27, hic, eqT, eqF, neT, neF, ltT, ltF, leT, leF, nltT, nltF, nleT, nleF, nneT, nneF, flipX, List.getElem?_cons_zero, List.getElem?_cons_succ, d10_28, hlt, bat, hga, ha, hla, hgw, haw, hlaw, v1, hqq, hj2, haw0, hlaw0, v2, hgn, han, hlan, hnq, hnl, hgp, hpp', hlep]
    have hbare := bare_spec (F := F) (by omega) g' 22 e.w
    have htk : (noteC 22 e.w).take 21 = noteC 22 e.w := rfl
    rw [htk]
    refine Ans.nextE hbare ?_
    rintro u g2 ⟨rfl, k2⟩
    simp (disch := first | omega | (simp only [newRow_size, Array.size_setIfInBounds, Array.size_push]; done) | (simp only [newRow_size, Array.size_setIfInBounds, Array.size_push]; omega)) [eqT, eqF, neT, neF, ltT, ltF, leT, leF, nltT, nltF, nleT, nleF, nneT, nneF, flipX, List.getElem?_cons_zero, List.getElem?_cons_succ, r10_30, hw]
    exact ih (T.length - (i + 1)) _ _ (by omega) ⟨i + 1, rfl, by omega, rfl, kg.trans k2⟩
  · have hii : i = T.length := by omega
    subst hii
    simp (disch := first | omega | (simp only [newRow_size, Array.size_setIfInBounds, Array.size_push]; done) | (simp only [newRow_size, Array.size_setIfInBounds, Array.size_push]; omega)) [l10_31, r10_27, hlw, eqT, eqF, neT, neF, ltT, ltF, leT, leF, nltT, nltF, nleT, nleF, nneT, nneF, flipX, List.getElem?_cons_zero, List.getElem?_cons_succ]
    exact hk _ _ kg

end Go.Proofs.Ytefbpobeclkbhaa
