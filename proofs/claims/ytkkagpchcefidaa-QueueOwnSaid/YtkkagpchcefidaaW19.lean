/- Several texts in one: Qw24, Qw25, Qw26, Qw27, Qw28, Qw29, Qw30, Qw31. -/
import Derived.Test.YtkkagpchcefidaaW18

/- QueueOwn: held, all that is gathered; compared. -/
set_option linter.unusedSimpArgs false
set_option linter.unusedVariables false
namespace Go.Proofs.Ytkkagpchcefidaa
open Go.Ev

def rdLoop : ACode := (.seq (.region r33_6 [0, 1, 5, 6, 7, 8]) (.block 2 (.loop [0, 1, 5, 6, 7, 8] l33_15)))
theorem l33_15_cut : l33_15 = (.seq (.seq (.region r33_7 [0, 1, 5, 6, 7, 8, 34]) (.cond (.tmp 34) .skip (.exit 2))) (.seq (.block 3 (.seq (.region r33_8 [0, 1, 5, 6, 7, 8, 9]) (.seq (.seq (.region r33_9 [0, 1, 5, 6, 7, 8, 9, 38]) (.cond (.tmp 38) (.region r33_10 [0, 1, 5, 6, 7, 8, 9]) .skip)) rdBody))) (.region r33_14 [0, 1, 5, 6, 7, 8]))) := rfl
theorem l33_17_cut : l33_17 = (.seq (.seq (.region r33_4 [0, 1, 5, 6, 7, 23]) (.cond (.tmp 23) .skip (.exit 0))) (.seq (.block 1 (.seq (.region r33_5 [0, 1, 5, 6, 7]) rdLoop)) (.region r33_16 [0, 1, 5, 6, 7]))) := rfl

set_option maxHeartbeats 2000000 in
theorem rdLoop_spec {F : Nat} (hF : 17592186044450 ≤ F) {κ : Kp} {g : H} {n b r first : Nat} {q : Qm} {aV wV v : Value} {A : List (Value × List Itm)} {Wv : List Value} (s : HS κ g n b r first q aV wV A Wv) (hA : A.length ≤ 37) {i : Nat}
    {kn kr : K} {ke : Nat → K} {Q : Value → H → Prop}
    (hkn : ∀ g' κ' aV' wV' A' Wv' (e : Env), HS κ' g' n b r first q aV' wV' A' Wv' → A'.length = A.length + 3 → Agr g.size κ κ' → Ch κ (gath n) g g' →
      Ans (kn ((0, .pointer (some ⟨b, 0, none⟩)) :: (1, v) :: (5, aV') :: (6, wV') :: (7, .int .i64 i) :: e) g' []) Q) :
    Ans (evC F (cf F) rdLoop kn ke kr [(0, .pointer (some ⟨b, 0, none⟩)), (1, v), (5, aV), (6, wV), (7, .int .i64 i)] g []) Q := by
  simp (disch := first | omega | (simp only [newRow_size, Array.size_setIfInBounds, Array.size_push]; done) | (simp only [newRow_size, Array.size_setIfInBounds, Array.size_push]; omega)) [rdLoop, r33_6]
  refine loop_rule (fun mm e g' => ∃ (k : Nat) (κ' : Kp) (aV' wV' : Value) (A' : List (Value × List Itm)) (Wv' : List Value), mm = 3 - k ∧ k ≤ 3 ∧ e = [(0, .pointer (some ⟨b, 0, none⟩)), (1, v), (5, aV'), (6, wV'), (7, .int .i64 i), (8, .int .i64 k)] ∧ HS κ' g' n b r first q aV' wV' A' Wv' ∧ A'.length = A.length + k ∧ Agr g.size κ κ' ∧ Ch κ (gath n) g g') ?_ F 3 _ _ (by omega)
    ⟨0, κ, aV, wV, A, Wv, by omega, by omega, rfl, s, by omega, Agr.refl _ _, Ch.refl _ _ _⟩
  rintro mm e g' again ⟨k, κ', aV', wV', A', Wv', rfl, hk, rfl, s', hA', ag, ch⟩ ih
  have hw : IntKind.i64.wrap ((k : Int) + 1) = ((k + 1 : Nat) : Int) := by rw [IntKind.wrap_i64]; omega
  have y := ch.1
  by_cases hlt : k < 3
  · have hkc : (k : Int) < 3 := by omega
    have go : ∀ (most : Int) (re : Env), Ans (evC F (cf F) rdBody (fun s h ds => evC F (cf F) (.region r33_14 [0, 1, 5, 6, 7, 8]) (keepK [0, 1, 5, 6, 7, 8] again) (putK 2 kn ke) kr s h ds) (putK 3 (fun s h ds => evC F (cf F) (.region r33_14 [0, 1, 5, 6, 7, 8]) (keepK [0, 1, 5, 6, 7, 8] again) (putK 2 kn ke) kr s h ds) (putK 2 kn ke)) kr ((0, .pointer (some ⟨b, 0, none⟩)) :: (1, v) :: (5, aV') :: (6, wV') :: (7, .int .i64 i) :: (8, .int .i64 k) :: (9, .int .i64 most) :: re) g' []) Q := by
      intro most re
      refine rdBody_spec hF s' (by omega) ?_
      intro g2 κ2 l w aV2 wV2 s2 ag2 ch2
      simp (disch := first | omega | (simp only [newRow_size, Array.size_setIfInBounds, Array.size_push]; done) | (simp only [newRow_size, Array.size_setIfInBounds, Array.size_push]; omega)) [r33_14, hw]
      exact ih (3 - (k + 1)) _ _ (by omega) ⟨k + 1, κ2, aV2, wV2, _, _, rfl, by omega, rfl, s2, by simp; omega, ag.trans ag2 y, ch.trans ch2 ag⟩
    by_cases h1 : k = 1
    · have h1c : (k : Int) = 1 := by omega
      simp (disch := first | omega | (simp only [newRow_size, Array.size_setIfInBounds, Array.size_push]; done) | (simp only [newRow_size, Array.size_setIfInBounds, Array.size_push]; omega)) [l33_15_cut, r33_7, hkc, eqT, eqF, neT, neF, ltT, ltF, leT, leF, nltT, nltF, nleT, nleF, nneT, nneF, List.getElem?_cons_zero, List.getElem?_cons_succ, r33_8, r33_9, h1c, r33_10]
      have := go 2 []
      rw [h1c] at this
      exact this
    · have h1c : ¬ (k : Int) = 1 := by omega
      simp (disch := first | omega | (simp only [newRow_size, Array.size_setIfInBounds, Array.size_push]; done) | (simp only [newRow_size, Array.size_setIfInBounds, Array.size_push]; omega)) [l33_15_cut, r33_7, hkc, eqT, eqF, neT, neF, ltT, ltF, leT, leF, nltT, nltF, nleT, nleF, nneT, nneF, List.getElem?_cons_zero, List.getElem?_cons_succ, r33_8, r33_9, h1c]
      exact go 99 _
  · have hkk : k = 3 := by omega
    subst hkk
    simp (disch := first | omega | (simp only [newRow_size, Array.size_setIfInBounds, Array.size_push]; done) | (simp only [newRow_size, Array.size_setIfInBounds, Array.size_push]; omega)) [l33_15_cut, r33_7, eqT, eqF, neT, neF, ltT, ltF, leT, leF, nltT, nltF, nleT, nleF, nneT, nneF, List.getElem?_cons_zero, List.getElem?_cons_succ]
    exact hkn g' κ' aV' wV' A' Wv' _ s' hA' ag ch

def gaLoop : ACode := (.seq (.region r33_3 [0, 1, 5, 6, 7]) (.block 0 (.loop [0, 1, 5, 6, 7] l33_17)))

theorem gath_step (n : Nat) (c : Col) (h : c = .qs n) : gath n c := .inl h

set_option maxHeartbeats 2000000 in
theorem gaLoop_spec {F : Nat} (hF : 17592186044450 ≤ F) {κ : Kp} {g : H} {n N b r first : Nat} {q : Qm} {v : Value} {script : List Stp} (s : HS κ g n b r first q (.slice none 0 0) (.slice none 0 0) [] []) (hb : N ≤ b) (hr : N ≤ r) (hlow : ∀ c, c < N → κ c = .old) (hN : N ≤ g.size) (sc : SlR (fun c => c < N) 5 (StpC (fun c => c < N)) g v script)
    {kn kr : K} {ke : Nat → K} {Q : Value → H → Prop}
    (hkn : ∀ g' κ' first' q' aV' wV' A' Wv' (e : Env), HS κ' g' n b r first' q' aV' wV' A' Wv' → A'.length ≤ 36 → Agr g.size κ κ' → Ch κ (gath n) g g' →
      Ans (kn ((0, .pointer (some ⟨b, 0, none⟩)) :: (1, v) :: (5, aV') :: (6, wV') :: e) g' []) Q) :
    Ans (evC F (cf F) gaLoop kn ke kr [(0, .pointer (some ⟨b, 0, none⟩)), (1, v), (5, .slice none 0 0), (6, .slice none 0 0)] g []) Q := by
  have hl := sc.len
  obtain ⟨M, hM⟩ : ∃ M, M = min script.length 12 := ⟨_, rfl⟩
  simp (disch := first | omega | (simp only [newRow_size, Array.size_setIfInBounds, Array.size_push]; done) | (simp only [newRow_size, Array.size_setIfInBounds, Array.size_push]; omega)) [gaLoop, r33_3]
  refine loop_rule (fun mm e g' => ∃ (i : Nat) (κ' : Kp) (first' : Nat) (q' : Qm) (aV' wV' : Value) (A' : List (Value × List Itm)) (Wv' : List Value), mm = M - i ∧ i ≤ M ∧ e = [(0, .pointer (some ⟨b, 0, none⟩)), (1, v), (5, aV'), (6, wV'), (7, .int .i64 i)] ∧ HS κ' g' n b r first' q' aV' wV' A' Wv' ∧ A'.length = 3 * i ∧ Agr g.size κ κ' ∧ Ch κ (gath n) g g') ?_ F M _ _ (by omega)
    ⟨0, κ, first, q, _, _, [], [], by omega, by omega, rfl, s, rfl, Agr.refl _ _, Ch.refl _ _ _⟩
  rintro mm e g' again ⟨i, κ', first', q', aV', wV', A', Wv', rfl, hi, rfl, s', hA', ag, ch⟩ ih
  have hw : IntKind.i64.wrap ((i : Int) + 1) = ((i + 1 : Nat) : Int) := by rw [IntKind.wrap_i64]; omega
  have y := ch.1
  by_cases hlt : i < M
  · obtain ⟨x, hx⟩ : ∃ x, script[i]? = some x := ⟨_, List.getElem?_eq_getElem (by omega)⟩
    have h1 : (i : Int) < (script.length : Int) := by omega
    have h2 : (i : Int) < 12 := by omega
    have h3 : i < script.length := by omega
    have low : ∀ c cs, c < N → cel g c = some cs → cel g' c = some cs := fun c cs hc e => ch.cel e (by rw [hlow c hc]; simp [gath])
    have sc' : SlR (fun c => c < N) 5 (StpC (fun c => c < N)) g' v script := sc.imp (fun _ _ q => q) (fun cs x _ q => q.imp (fun _ _ q => q) low) low
    obtain ⟨b0, o0, c0, cs0, es0, lv0, an0, rfl, _, hg0, hle0, hr0⟩ := sc'.at' hx
    have hg0s := lt_of_get hg0
    have hlen5 : ((cs0.drop (o0 + i * 5)).take 5).length = 5 := by rw [List.length_take, List.length_drop]; omega
    simp (disch := first | omega | (simp only [newRow_size, Array.size_setIfInBounds, Array.size_push]; done) | (simp only [newRow_size, Array.size_setIfInBounds, Array.size_push]; omega)) [l33_17_cut, r33_4, h1, h2, eqT, eqF, neT, neF, ltT, ltF, leT, leF, nltT, nltF, nleT, nleF, nneT, nneF, List.getElem?_cons_zero, List.getElem?_cons_succ, r33_5, hg0, hle0, h3, callV_fn]
    refine Ans.next (few_spec (F := F) (by omega) hr0) ?_
    rintro u1 g1 ⟨cs, rfl, sx, k1⟩
    refine Ans.next (stepA_spec (F := F) (by omega) s'.qc hb hr sx k1) ?_
    intro u2 g2 p2
    obtain ⟨rfl, y2, κ2, first2, s2, ag2, ch2⟩ := s'.step p2
    simp (disch := first | omega | (simp only [newRow_size, Array.size_setIfInBounds, Array.size_push]; done) | (simp only [newRow_size, Array.size_setIfInBounds, Array.size_push]; omega)) []
    refine rdLoop_spec hF s2 (by omega) ?_
    intro g3 κ3 aV3 wV3 A3 Wv3 e3 s3 hA3 ag3 ch3
    simp (disch := first | omega | (simp only [newRow_size, Array.size_setIfInBounds, Array.size_push]; done) | (simp only [newRow_size, Array.size_setIfInBounds, Array.size_push]; omega)) [r33_16, hw]
    exact ih (M - (i + 1)) _ _ (by omega) ⟨i + 1, κ3, first2, _, aV3, wV3, A3, Wv3, rfl, by omega, rfl, s3, by omega, ag.trans (ag2.trans ag3 y2) y, ch.trans ((ch2.weak (gath_step n)).trans ch3 ag2) ag⟩
  · have hiM : i = M := by omega
    subst hiM
    by_cases c1 : i < script.length
    · have h1 : (i : Int) < (script.length : Int) := by omega
      have h2 : ¬ (i : Int) < 12 := by omega
      simp (disch := first | omega | (simp only [newRow_size, Array.size_setIfInBounds, Array.size_push]; done) | (simp only [newRow_size, Array.size_setIfInBounds, Array.size_push]; omega)) [l33_17_cut, r33_4, hl, h1, h2, eqT, eqF, neT, neF, ltT, ltF, leT, leF, nltT, nltF, nleT, nleF, nneT, nneF, List.getElem?_cons_zero, List.getElem?_cons_succ]
      exact hkn g' κ' first' q' aV' wV' A' Wv' _ s' (by omega) ag ch
    · have h1 : ¬ (i : Int) < (script.length : Int) := by omega
      simp (disch := first | omega | (simp only [newRow_size, Array.size_setIfInBounds, Array.size_push]; done) | (simp only [newRow_size, Array.size_setIfInBounds, Array.size_push]; omega)) [l33_17_cut, r33_4, hl, h1, eqT, eqF, neT, neF, ltT, ltF, leT, leF, nltT, nltF, nleT, nleF, nneT, nneF, List.getElem?_cons_zero, List.getElem?_cons_succ]
      exact hkn g' κ' first' q' aV' wV' A' Wv' _ s' (by omega) ag ch

def cmLoop : ACode := (.seq (.region r33_18 [5, 6, 11]) (.block 4 (.loop [5, 6, 11] l33_23)))

set_option maxHeartbeats 2000000 in
theorem cmLoop_spec {F : Nat} (hF : 17592186044450 ≤ F) {κ : Kp} {g : H} {n b r first : Nat} {q : Qm} {aV wV v0 v1 : Value} {A : List (Value × List Itm)} {Wv : List Value} (s : HS κ g n b r first q aV wV A Wv) (hA : A.length ≤ 36) {re : Env}
    {kn kr : K} {ke : Nat → K} {Q : Value → H → Prop}
    (hkn : ∀ g' (e : Env), Kept g g' [] → Ans (kn ((5, aV) :: (6, wV) :: e) g' []) Q) :
    Ans (evC F (cf F) cmLoop kn ke kr ((0, v0) :: (1, v1) :: (5, aV) :: (6, wV) :: re) g []) Q := by
  have hl := s.al.sl.len
  rw [List.length_map] at hl
  simp (disch := first | omega | (simp only [newRow_size, Array.size_setIfInBounds, Array.size_push]; done) | (simp only [newRow_size, Array.size_setIfInBounds, Array.size_push]; omega)) [cmLoop, r33_18]
  refine loop_rule (fun mm e g' => ∃ (i : Nat), mm = A.length - i ∧ i ≤ A.length ∧ e = [(5, aV), (6, wV), (11, .int .i64 i)] ∧ Kept g g' []) ?_ F A.length _ _ (by omega) ⟨0, by omega, by omega, rfl, Kept.refl _ _⟩
  rintro mm e g' again ⟨i, rfl, hi, rfl, kg⟩ ih
  have hw : IntKind.i64.wrap ((i : Int) + 1) = ((i + 1 : Nat) : Int) := by rw [IntKind.wrap_i64]; omega
  by_cases hlt : i < A.length
  · obtain ⟨x, hx⟩ : ∃ x, A[i]? = some x := ⟨_, List.getElem?_eq_getElem hlt⟩
    obtain ⟨w, hw'⟩ : ∃ w, Wv[i]? = some w := ⟨_, List.getElem?_eq_getElem (by rw [s.len]; exact hlt)⟩
    have hic : (i : Int) < (A.length : Int) := by omega
    have ch : Ch κ no g g' := Ch.of kg
    obtain ⟨ba, csa, ana, ea, _, hga, hla, hra⟩ := (valTr s.al ch (by simp [no]) (Agr.refl _ _)).row (i := i) (x := x.1) (by rw [List.getElem?_map, hx]; rfl)
    obtain ⟨bw, csw, anw, ew, _, hgw, hlw, hrw⟩ := (valTr s.wl ch (by simp [no]) (Agr.refl _ _)).row hw'
    have ia := ansTr s.ans ch (by simp [no]) (Agr.refl _ _) i x hx
    have iw := wnTr s.wn ch (by simp [no]) (Agr.refl _ _) i x w hx hw'
    have hra' : (csa.drop (i * 1)).take 1 = [x.1] := hra
    have hrw' : (csw.drop (i * 1)).take 1 = [w] := hrw
    rw [Nat.mul_one] at hra' hrw' hla hlw
    rw [List.length_map] at ea
    have hlt2 : i < Wv.length := by rw [s.len]; exact hlt
    subst ea ew
    simp (disch := first | omega | (simp only [newRow_size, Array.size_setIfInBounds, Array.size_push]; done) | (simp only [newRow_size, Array.size_setIfInBounds, Array.size_push]; omega)) [l33_23, r33_19, hic, eqT, eqF, neT, neF, ltT, ltF, leT, leF, nltT, nltF, nleT, nleF, nneT, nneF, List.getElem?_cons_zero, List.getElem?_cons_succ, d33_20, hga, hla, hra', hgw, hlw, hrw', hlt, hlt2, callV_fn]
    refine Ans.nextE (items_same (F := F) (by omega) (ItmO.c ia.1) iw ia.2.short) ?_
    rintro u g2 ⟨rfl, k2⟩
    simp (disch := first | omega | (simp only [newRow_size, Array.size_setIfInBounds, Array.size_push]; done) | (simp only [newRow_size, Array.size_setIfInBounds, Array.size_push]; omega)) [eqT, eqF, neT, neF, ltT, ltF, leT, leF, nltT, nltF, nleT, nleF, nneT, nneF, List.getElem?_cons_zero, List.getElem?_cons_succ, r33_22, hw]
    exact ih (A.length - (i + 1)) _ _ (by omega) ⟨i + 1, rfl, by omega, rfl, kg.trans k2⟩
  · have hii : i = A.length := by omega
    subst hii
    have hic : ¬ (A.length : Int) < (A.length : Int) := by omega
    simp (disch := first | omega | (simp only [newRow_size, Array.size_setIfInBounds, Array.size_push]; done) | (simp only [newRow_size, Array.size_setIfInBounds, Array.size_push]; omega)) [l33_23, r33_19, hl, hic, eqT, eqF, neT, neF, ltT, ltF, leT, leF, nltT, nltF, nleT, nleF, nneT, nneF, List.getElem?_cons_zero, List.getElem?_cons_succ]
    exact hkn g' _ kg

end Go.Proofs.Ytkkagpchcefidaa

/- QueueOwn: books kept and looked at; held. -/
set_option linter.unusedSimpArgs false
set_option linter.unusedVariables false
namespace Go.Proofs.Ytkkagpchcefidaa
open Go.Ev

structure BRec where
  j : Nat
  m : Nat
  items : List Itm
  L : Value
  G : Value
  C : Value
  P : Value
  T : Value
  N : Value

def BRec.cells (x : BRec) : List Value := [x.L, x.G, x.C, x.P, x.T, x.N, .int .i64 x.m]

structure BRec.Ok (κ : Kp) (g : H) (x : BRec) : Prop where
  one : [x.L, x.G, x.C, x.P, x.T, x.N].all oneCell = true
  few : FewI x.items
  le : x.m ≤ 1000
  bk : Book (inAns κ x.j) g x.m x.items.length (bsC x.j x.m x.items) (bsP x.j x.m x.items) (bsT x.j x.m x.items) (bsN x.j x.m x.items) x.L x.G x.C x.P x.T x.N

theorem BRec.Ok.tr {κ κ' : Kp} {S : Col → Prop} {g g' : H} {x : BRec} (s : x.Ok κ g) (k : Ch κ S g g') (hS : ∀ kd i m, ¬ S (.ans x.j kd i m)) (ag : Agr g.size κ κ') : x.Ok κ' g' := ⟨s.one, s.few, s.le, s.bk.tr k hS ag⟩

theorem BRec.Ok.still {F : Nat} (hF : 40000 ≤ F) {κ : Kp} {g : H} {x : BRec} (s : x.Ok κ g) : Ans (cf F 56 [.agg ⟨x.cells⟩] g) fun u g' => u = .bool true ∧ Kept g g' [] :=
  still_spec hF s.bk (bsC_base s.few s.le).small (bsP_base s.few s.le).small (bsT_base s.few s.le).small (bsN_base s.few s.le).small (by simp [bsP, bsC, fP, fC]) s.few.1 s.one

/-- A list of books. -/
structure BL (κ : Kp) (g : H) (xV : Value) (Bs : List BRec) : Prop where
  row : BldA (fun c => κ c = .bk 5) 7 (fun _ cs (x : BRec) => cs = x.cells) g xV Bs
  ok : ∀ x ∈ Bs, x.Ok κ g

theorem BL.nil (κ : Kp) (g : H) : BL κ g (.slice none 0 0) [] := ⟨BldA.nil, by simp⟩
theorem BL.tr {κ κ' : Kp} {S : Col → Prop} {g g' : H} {xV : Value} {Bs : List BRec} (s : BL κ g xV Bs) (k : Ch κ S g g') (h5 : ¬ S (.bk 5)) (hS : ∀ x ∈ Bs, ∀ kd i m, ¬ S (.ans x.j kd i m)) (ag : Agr g.size κ κ') : BL κ' g' xV Bs :=
  ⟨s.row.tr k h5 ag (fun _ _ _ _ q => q), fun x hx => (s.ok x hx).tr k (hS x hx) ag⟩

/-- One book more. -/
theorem BL.app {κ : Kp} {g : H} {xV : Value} {Bs : List BRec} (s : BL κ g xV Bs) (x : BRec) (hx : x.Ok κ g) (hl : Bs.length ≤ 1000) :
    Ans (appendTo (Ev.newRow g x.cells 7 []) 7 152 xV 1 x.cells) fun v' g' => BL (ext κ g.size (.bk 5)) g' v' (Bs ++ [x]) ∧ Ch κ (· = .bk 5) g g' ∧ KeptC g g' [] := by
  have ag : Agr g.size κ (ext κ g.size (.bk 5)) := Agr.ext (Nat.le_refl _)
  refine (s.row.app (R2 := fun _ cs (x : BRec) => cs = x.cells) (bytes := 152) x rfl (by omega) (fun _ _ _ _ _ _ q => q) (fun _ _ => rfl)).mono ?_
  rintro v' g' ⟨r, ch, kc⟩
  refine ⟨⟨r, fun y hy => ?_⟩, ch, kc⟩
  rcases List.mem_append.1 hy with hy | hy
  · exact (s.ok y hy).tr ch (by simp) ag
  · rw [List.mem_singleton.1 hy]
    exact hx.tr ch (by simp) ag

def stLoop : ACode := (.seq (.region r33_30 [12, 14]) (.block 8 (.loop [12, 14] l33_36)))

set_option maxHeartbeats 2000000 in
theorem stLoop_spec {F : Nat} (hF : 50000 ≤ F) {κ : Kp} {g : H} {xV v5 : Value} {Bs : List BRec} (s : BL κ g xV Bs) (hl : Bs.length ≤ 100) {re : Env}
    {kn kr : K} {ke : Nat → K} {Q : Value → H → Prop}
    (hkn : ∀ g' (e : Env), Kept g g' [] → Ans (kn ((12, xV) :: e) g' []) Q) :
    Ans (evC F (cf F) stLoop kn ke kr ((5, v5) :: (12, xV) :: re) g []) Q := by
  have hlv := s.row.sl.len
  simp (disch := first | omega | (simp only [newRow_size, Array.size_setIfInBounds, Array.size_push]; done) | (simp only [newRow_size, Array.size_setIfInBounds, Array.size_push]; omega)) [stLoop, r33_30]
  refine loop_rule (fun mm e g' => ∃ (i : Nat), mm = Bs.length - i ∧ i ≤ Bs.length ∧ e = [(12, xV), (14, .int .i64 i)] ∧ Kept g g' []) ?_ F Bs.length _ _ (by omega) ⟨0, by omega, by omega, rfl, Kept.refl _ _⟩
  rintro mm e g' again ⟨i, rfl, hi, rfl, kg⟩ ih
  have hw : IntKind.i64.wrap ((i : Int) + 1) = ((i + 1 : Nat) : Int) := by rw [IntKind.wrap_i64]; omega
  by_cases hlt : i < Bs.length
  · obtain ⟨x, hx⟩ : ∃ x, Bs[i]? = some x := ⟨_, List.getElem?_eq_getElem hlt⟩
    have hic : (i : Int) < (Bs.length : Int) := by omega
    have s' := s.tr (κ' := κ) (Ch.of (S := no) kg) (by simp [no]) (by simp [no]) (Agr.refl _ _)
    obtain ⟨b, cs, an, rfl, _, hg, hle, hr⟩ := s'.row.row hx
    have st := (s'.ok x (List.mem_of_getElem? hx)).still (F := F) (by omega)
    simp (disch := first | omega | (simp only [newRow_size, Array.size_setIfInBounds, Array.size_push]; done) | (simp only [newRow_size, Array.size_setIfInBounds, Array.size_push]; omega)) [l33_36, r33_31, hic, eqT, eqF, neT, neF, ltT, ltF, leT, leF, nltT, nltF, nleT, nleF, nneT, nneF, List.getElem?_cons_zero, List.getElem?_cons_succ, r33_32, hg, hle, hr, hlt, callV_fn]
    refine Ans.next st ?_
    rintro u g2 ⟨rfl, k2⟩
    simp (disch := first | omega | (simp only [newRow_size, Array.size_setIfInBounds, Array.size_push]; done) | (simp only [newRow_size, Array.size_setIfInBounds, Array.size_push]; omega)) [r33_33, eqT, eqF, neT, neF, ltT, ltF, leT, leF, nltT, nltF, nleT, nleF, nneT, nneF, List.getElem?_cons_zero, List.getElem?_cons_succ, r33_35, hw]
    exact ih (Bs.length - (i + 1)) _ _ (by omega) ⟨i + 1, rfl, by omega, rfl, kg.trans k2⟩
  · have hii : i = Bs.length := by omega
    subst hii
    have hic : ¬ (Bs.length : Int) < (Bs.length : Int) := by omega
    simp (disch := first | omega | (simp only [newRow_size, Array.size_setIfInBounds, Array.size_push]; done) | (simp only [newRow_size, Array.size_setIfInBounds, Array.size_push]; omega)) [l33_36, r33_31, hlv, hic, eqT, eqF, neT, neF, ltT, ltF, leT, leF, nltT, nltF, nleT, nleF, nneT, nneF, List.getElem?_cons_zero, List.getElem?_cons_succ]
    exact hkn g' _ kg

def keLoop : ACode := (.seq (.region r33_25 [5, 12, 13]) (.block 6 (.loop [5, 12, 13] l33_29)))

set_option maxHeartbeats 2000000 in
theorem keLoop_spec {F : Nat} (hF : 50000 ≤ F) {κ : Kp} {g : H} {aV : Value} {A : List (Value × List Itm)} (al : BldA (fun c => κ c = .bk 2) 1 ValC g aV (A.map (·.1)))
    (an : ∀ (i : Nat) x, A[i]? = some x → BldA (fun c => κ c = .ans i 0 0 0) 5 (ItmO κ i) g x.1 x.2.zipIdx ∧ FewI x.2) (hA : A.length ≤ 36)
    {kn kr : K} {ke : Nat → K} {Q : Value → H → Prop}
    (hkn : ∀ g' κ' xV Bs (e : Env), BL κ' g' xV Bs → Bs.length = A.length → Agr g.size κ κ' → Ch κ (fun c => c = .bk 5 ∨ ∃ j, own j c) g g' → Ans (kn ((5, aV) :: (12, xV) :: e) g' []) Q) :
    Ans (evC F (cf F) keLoop kn ke kr [(5, aV), (12, .slice none 0 0)] g []) Q := by
  have hl := al.sl.len
  rw [List.length_map] at hl
  simp (disch := first | omega | (simp only [newRow_size, Array.size_setIfInBounds, Array.size_push]; done) | (simp only [newRow_size, Array.size_setIfInBounds, Array.size_push]; omega)) [keLoop, r33_25]
  refine loop_rule (fun mm e g' => ∃ (i : Nat) (κ' : Kp) (xV : Value) (Bs : List BRec), mm = A.length - i ∧ i ≤ A.length ∧ e = [(5, aV), (12, xV), (13, .int .i64 i)] ∧ BL κ' g' xV Bs ∧ Bs.length = i ∧ (∀ x ∈ Bs, x.j < i) ∧ BldA (fun c => κ' c = .bk 2) 1 ValC g' aV (A.map (·.1)) ∧
      (∀ (n : Nat) x, i ≤ n → A[n]? = some x → BldA (fun c => κ' c = .ans n 0 0 0) 5 (ItmO κ' n) g' x.1 x.2.zipIdx ∧ FewI x.2) ∧ Agr g.size κ κ' ∧ Ch κ (fun c => c = .bk 5 ∨ ∃ j, own j c) g g') ?_ F A.length _ _ (by omega)
    ⟨0, κ, _, [], by omega, by omega, rfl, BL.nil _ _, rfl, by simp, al, fun n x _ hx => an n x hx, Agr.refl _ _, Ch.refl _ _ _⟩
  rintro mm e g' again ⟨i, κ', xV, Bs, rfl, hi, rfl, bl, hB, hj, al', an', ag, ch⟩ ih
  have hw : IntKind.i64.wrap ((i : Int) + 1) = ((i + 1 : Nat) : Int) := by rw [IntKind.wrap_i64]; omega
  have y := ch.1
  by_cases hlt : i < A.length
  · obtain ⟨x, hx⟩ : ∃ x, A[i]? = some x := ⟨_, List.getElem?_eq_getElem hlt⟩
    have hic : (i : Int) < (A.length : Int) := by omega
    obtain ⟨ow, few⟩ := an' i x (Nat.le_refl _) hx
    obtain ⟨ba, csa, ana, ea, hka, hga, hla, hra⟩ := al'.row (i := i) (x := x.1) (by rw [List.getElem?_map, hx]; rfl)
    have hra' : (csa.drop (i * 1)).take 1 = [x.1] := hra
    rw [Nat.mul_one] at hra' hla
    rw [List.length_map] at ea
    have kp := kept_spec (F := F) (m := i + 1) (by omega) (by omega) few ow
    subst ea
    simp (disch := first | omega | (simp only [newRow_size, Array.size_setIfInBounds, Array.size_push]; done) | (simp only [newRow_size, Array.size_setIfInBounds, Array.size_push]; omega)) [l33_29, r33_26, hic, eqT, eqF, neT, neF, ltT, ltF, leT, leF, nltT, nltF, nleT, nleF, nneT, nneF, List.getElem?_cons_zero, List.getElem?_cons_succ, r33_27, hga, hla, hra', hlt, hw, callV_fn]
    refine Ans.next kp ?_
    rintro u g2 ⟨κ2, L, G, C, P, T, N, rfl, hone, ag2, ch2, bk⟩
    have y2 := ch2.1
    have n5 : ¬ own i (Col.bk 5) := by simp [own]
    have n2 : ¬ own i (Col.bk 2) := by simp [own]
    have nj : ∀ n, n ≠ i → ∀ kd a m, ¬ own i (Col.ans n kd a m) := by
      rintro n hn kd a m (h | ⟨_, _, _, h⟩)
      · cases h
      · injection h with h; exact hn h
    have bl2 := bl.tr ch2 n5 (fun x hx => nj _ (by have := hj x hx; omega)) ag2
    have al2 := valTr al' ch2 n2 ag2
    have ok2 : BRec.Ok κ2 g2 ⟨i, i + 1, x.2, L, G, C, P, T, N⟩ := ⟨hone, few, by show i + 1 ≤ 1000; omega, bk⟩
    have ap := bl2.app ⟨i, i + 1, x.2, L, G, C, P, T, N⟩ ok2 (by omega)
    simp only [BRec.cells] at ap
    have co1 : oneCell L = true ∧ oneCell G = true ∧ oneCell C = true ∧ oneCell P = true ∧ oneCell T = true ∧ oneCell N = true := by
      simp only [List.all_cons, List.all_nil, Bool.and_eq_true] at hone
      obtain ⟨a, b, c, d, e, f, _⟩ := hone
      exact ⟨a, b, c, d, e, f⟩
    obtain ⟨o1, o2, o3, o4, o5, o6⟩ := co1
    simp only [oneCell] at o1 o2 o3 o4 o5 o6
    simp (disch := first | omega | (simp only [newRow_size, Array.size_setIfInBounds, Array.size_push]; done) | (simp only [newRow_size, Array.size_setIfInBounds, Array.size_push]; omega)) [srcOf, o1, o2, o3, o4, o5, o6]
    refine Ans.next ap ?_
    rintro xV3 g3 ⟨bl3, ch3, _⟩
    have ag3 : Agr g2.size κ2 (ext κ2 g2.size (.bk 5)) := Agr.ext (Nat.le_refl _)
    simp (disch := first | omega | (simp only [newRow_size, Array.size_setIfInBounds, Array.size_push]; done) | (simp only [newRow_size, Array.size_setIfInBounds, Array.size_push]; omega)) [r33_28, hw]
    refine ih (A.length - (i + 1)) _ _ (by omega) ⟨i + 1, _, xV3, _, rfl, by omega, rfl, bl3, by simp [hB], ?_, valTr al2 ch3 (by simp) ag3, ?_, ag.trans (ag2.trans ag3 y2) y, ch.trans ((ch2.weak (fun c h => .inr ⟨i, h⟩)).trans (ch3.weak (fun c h => .inl h)) ag2) ag⟩
    · intro z hz
      rcases List.mem_append.1 hz with hz | hz
      · have := hj z hz; omega
      · rw [List.mem_singleton.1 hz]; show i < i + 1; omega
    · intro n z hn hz
      obtain ⟨w1, w2⟩ := an' n z (by omega) hz
      have w3 := w1.tr (R2 := ItmO κ2 n) ch2 (nj n (by omega) _ _ _) ag2 (fun cs n' y _ q => q.tr ch2 (fun kd m _ => nj n (by omega) _ _ _) ag2)
      exact ⟨w3.tr ch3 (by simp) ag3 (fun cs n' y _ q => q.tr ch3 (by simp) ag3), w2⟩
  · have hii : i = A.length := by omega
    subst hii
    have hic : ¬ (A.length : Int) < (A.length : Int) := by omega
    simp (disch := first | omega | (simp only [newRow_size, Array.size_setIfInBounds, Array.size_push]; done) | (simp only [newRow_size, Array.size_setIfInBounds, Array.size_push]; omega)) [l33_29, r33_26, hl, hic, eqT, eqF, neT, neF, ltT, ltF, leT, leF, nltT, nltF, nleT, nleF, nneT, nneF, List.getElem?_cons_zero, List.getElem?_cons_succ]
    exact hkn g' κ' xV Bs _ bl hB ag ch

end Go.Proofs.Ytkkagpchcefidaa

/- QueueOwn: held, the whole. -/
set_option linter.unusedSimpArgs false
set_option linter.unusedVariables false
namespace Go.Proofs.Ytkkagpchcefidaa
open Go.Ev

theorem a33_cut : a33 = ⟨96, (.seq (.region r33_0 [0, 1]) (.seq (.region r33_1 [0, 1, 5]) (.seq (.region r33_2 [0, 1, 5, 6]) (.seq gaLoop (.seq cmLoop (.seq (.region r33_24 [5, 12]) (.seq keLoop (.seq stLoop (.seq (.region r33_37 [4]) .ret))))))))), [.tmp 4]⟩ := rfl

theorem held_spec {F : Nat} (hF : 17592186044460 ≤ F) {κ : Kp} {g : H} {n N b r first : Nat} {q : Qm} {v : Value} {script : List Stp} (qc : QC κ n g b r first q) (hb : N ≤ b) (hr : N ≤ r) (hlow : ∀ c, c < N → κ c = .old) (hN : N ≤ g.size) (hfr : ∀ c, c < g.size → ∀ j kd i m, κ c ≠ .ans j kd i m)
    (sc : SlR (fun c => c < N) 5 (StpC (fun c => c < N)) g v script) :
    Ans (cf F 33 [.pointer (some ⟨b, 0, none⟩), v] g) fun u _ => u = .bool true := by
  obtain ⟨F, rfl⟩ : ∃ G, F = G + 1 := ⟨F - 1, by omega⟩
  rw [cf_step (a := a33) rfl rfl (by simp [a33])]
  have s0 : HS κ g n b r first q (.slice none 0 0) (.slice none 0 0) [] [] := ⟨qc, BldA.nil, BldA.nil, by simp, by simp, rfl, fun c hc j kd i m e => absurd e (hfr c hc j kd i m)⟩
  simp (disch := first | omega | (simp only [newRow_size, Array.size_setIfInBounds, Array.size_push]; done) | (simp only [newRow_size, Array.size_setIfInBounds, Array.size_push]; omega)) [a33_cut, r33_0, r33_1, r33_2]
  refine gaLoop_spec (F := F) (by omega) s0 hb hr hlow hN sc ?_
  intro g1 κ1 first1 q1 aV wV A Wv e1 s1 hA ag1 ch1
  refine cmLoop_spec (F := F) (by omega) s1 hA ?_
  intro g2 e2 k2
  simp (disch := first | omega | (simp only [newRow_size, Array.size_setIfInBounds, Array.size_push]; done) | (simp only [newRow_size, Array.size_setIfInBounds, Array.size_push]; omega)) [r33_24]
  have ch2 : Ch κ1 no g1 g2 := Ch.of k2
  refine keLoop_spec (F := F) (by omega) (valTr s1.al ch2 (by simp [no]) (Agr.refl _ _)) (ansTr s1.ans ch2 (by simp [no]) (Agr.refl _ _)) hA ?_
  intro g3 κ3 xV Bs e3 bl hB ag3 ch3
  refine stLoop_spec (F := F) (by omega) bl (by omega) ?_
  intro g4 e4 k4
  simp (disch := first | omega | (simp only [newRow_size, Array.size_setIfInBounds, Array.size_push]; done) | (simp only [newRow_size, Array.size_setIfInBounds, Array.size_push]; omega)) [r33_37]
  exact Ans.of rfl

end Go.Proofs.Ytkkagpchcefidaa

/- QueueOwn: marked. -/
set_option linter.unusedSimpArgs false
set_option linter.unusedVariables false
namespace Go.Proofs.Ytkkagpchcefidaa
open Go.Ev

def msLoop : ACode := (.seq (.region r32_13 [0, 1, 2, 7, 8, 12]) (.block 2 (.loop [0, 1, 2, 7, 8, 12] l32_19)))

set_option maxHeartbeats 2000000 in
theorem msLoop_spec {F : Nat} (hF : 50000 ≤ F) {κ : Kp} {g : H} {xV v0 v1 v2 v8 : Value} {Bs : List BRec} (s : BL κ g xV Bs) (hl : Bs.length ≤ 100)
    {kn kr : K} {ke : Nat → K} {Q : Value → H → Prop}
    (hkn : ∀ g' (e : Env), Kept g g' [] → Ans (kn ((0, v0) :: (1, v1) :: (2, v2) :: (7, xV) :: (8, v8) :: e) g' []) Q) :
    Ans (evC F (cf F) msLoop kn ke kr [(0, v0), (1, v1), (2, v2), (7, xV), (8, v8)] g []) Q := by
  have hlv := s.row.sl.len
  simp (disch := first | omega | (simp only [newRow_size, Array.size_setIfInBounds, Array.size_push]; done) | (simp only [newRow_size, Array.size_setIfInBounds, Array.size_push]; omega)) [msLoop, r32_13]
  refine loop_rule (fun mm e g' => ∃ (i : Nat), mm = Bs.length - i ∧ i ≤ Bs.length ∧ e = [(0, v0), (1, v1), (2, v2), (7, xV), (8, v8), (12, .int .i64 i)] ∧ Kept g g' []) ?_ F Bs.length _ _ (by omega) ⟨0, by omega, by omega, rfl, Kept.refl _ _⟩
  rintro mm e g' again ⟨i, rfl, hi, rfl, kg⟩ ih
  have hw : IntKind.i64.wrap ((i : Int) + 1) = ((i + 1 : Nat) : Int) := by rw [IntKind.wrap_i64]; omega
  by_cases hlt : i < Bs.length
  · obtain ⟨x, hx⟩ : ∃ x, Bs[i]? = some x := ⟨_, List.getElem?_eq_getElem hlt⟩
    have hic : (i : Int) < (Bs.length : Int) := by omega
    have s' := s.tr (κ' := κ) (Ch.of (S := no) kg) (by simp [no]) (by simp [no]) (Agr.refl _ _)
    obtain ⟨b, cs, an, rfl, _, hg, hle, hr⟩ := s'.row.row hx
    have st := (s'.ok x (List.mem_of_getElem? hx)).still (F := F) (by omega)
    simp (disch := first | omega | (simp only [newRow_size, Array.size_setIfInBounds, Array.size_push]; done) | (simp only [newRow_size, Array.size_setIfInBounds, Array.size_push]; omega)) [l32_19, r32_14, hic, eqT, eqF, neT, neF, ltT, ltF, leT, leF, nltT, nltF, nleT, nleF, nneT, nneF, List.getElem?_cons_zero, List.getElem?_cons_succ, r32_15, hg, hle, hr, hlt, callV_fn]
    refine Ans.next st ?_
    rintro u g2 ⟨rfl, k2⟩
    simp (disch := first | omega | (simp only [newRow_size, Array.size_setIfInBounds, Array.size_push]; done) | (simp only [newRow_size, Array.size_setIfInBounds, Array.size_push]; omega)) [r32_16, eqT, eqF, neT, neF, ltT, ltF, leT, leF, nltT, nltF, nleT, nleF, nneT, nneF, List.getElem?_cons_zero, List.getElem?_cons_succ, r32_18, hw]
    exact ih (Bs.length - (i + 1)) _ _ (by omega) ⟨i + 1, rfl, by omega, rfl, kg.trans k2⟩
  · have hii : i = Bs.length := by omega
    subst hii
    have hic : ¬ (Bs.length : Int) < (Bs.length : Int) := by omega
    simp (disch := first | omega | (simp only [newRow_size, Array.size_setIfInBounds, Array.size_push]; done) | (simp only [newRow_size, Array.size_setIfInBounds, Array.size_push]; omega)) [l32_19, r32_14, hlv, hic, eqT, eqF, neT, neF, ltT, ltF, leT, leF, nltT, nltF, nleT, nleF, nneT, nneF, List.getElem?_cons_zero, List.getElem?_cons_succ]
    exact hkn g' _ kg

/-- The colours that change in marked. -/
def mS : Col → Prop := fun c => c = .qs 0 ∨ c = .qs 1 ∨ c = .bk 5 ∨ ∃ j, own j c

/-- A list is kept, and its book put behind the others. -/
def keepB : ACode := (.region r32_11 [0, 1, 2, 7, 8, 11])
def keepC : ACode := (.region r32_12 [0, 1, 2, 7, 8])

structure MB (κ : Kp) (g : H) (xV : Value) (Bs : List BRec) (J : Nat) : Prop where
  bl : BL κ g xV Bs
  lt : ∀ x ∈ Bs, x.j < J

theorem EntS.recol {ok ok' : Nat → Prop} {w : Nat} {R1 : Int → List Value → Prop} {R2 : Int → Nat → List Value → Prop} {g : H} {cs : List Value} {x : Ent × Nat} (h : ∀ c, ok c → ok' c) (s : EntS ok w R1 R2 g cs x) : EntS ok' w R1 R2 g cs x := by
  obtain ⟨v, e, b⟩ := s
  exact ⟨v, e, b.imp (fun c _ q => h c q) (fun _ _ _ q => q) (fun _ _ _ q => q)⟩
theorem Book.recol {ok ok' : Nat → Prop} {g : H} {m nL : Nat} {bC bP bT bN : List Ent} {L G C P T N : Value} (h : ∀ c, ok c → ok' c) (s : Book ok g m nL bC bP bT bN L G C P T N) : Book ok' g m nL bC bP bT bN L G C P T N :=
  ⟨s.lc.imp (fun c _ q => h c q) (fun _ _ _ q => q) (fun _ _ _ q => q), s.gc.imp (fun c _ q => h c q) (fun _ _ _ q => q) (fun _ _ _ q => q), s.cc.imp (fun c _ q => h c q) (fun _ _ _ q => q.recol h) (fun _ _ _ q => q), s.pc.imp (fun c _ q => h c q) (fun _ _ _ q => q.recol h) (fun _ _ _ q => q), s.tc.imp (fun c _ q => h c q) (fun _ _ _ q => q.recol h) (fun _ _ _ q => q), s.nc.imp (fun c _ q => h c q) (fun _ _ _ q => q.recol h) (fun _ _ _ q => q)⟩

/-- The same colours, but for other answers' names in what is new. -/
def recol (κ : Kp) (n j : Nat) : Kp := fun c => if c < n then κ c else match κ c with
  | .ans m kd i k => if m = j then .ans m kd i k else .old
  | t => t
theorem recol_old {κ : Kp} {n j c : Nat} (h : c < n) : recol κ n j c = κ c := by simp [recol, h]
theorem recol_ans {κ : Kp} {n j c : Nat} (h : inAns κ j c) : inAns (recol κ n j) j c := by
  obtain ⟨kd, i, k, e⟩ := h
  refine ⟨kd, i, k, ?_⟩
  unfold recol
  split
  · exact e
  · rw [e]; simp
theorem recol_new {κ : Kp} {n j c : Nat} (h : n ≤ c) {m kd i k : Nat} (e : recol κ n j c = .ans m kd i k) : m = j := by
  unfold recol at e
  rw [if_neg (by omega)] at e
  split at e
  · split at e
    · injection e with e1; omega
    · cases e
  · rename_i t ht
    exact absurd e (ht _ _ _ _)

theorem keep_app {F : Nat} (hF : 50000 ≤ F) {κ : Kp} {g : H} {xV l : Value} {Bs : List BRec} {J j m : Nat} {items : List Itm} (s : MB κ g xV Bs J) (hj : ∀ x ∈ Bs, x.j ≠ j) (hJ : j < J) (hl : Bs.length ≤ 100) (hm : m ≤ 1000) (few : FewI items) (ow : BldA (fun c => κ c = .ans j 0 0 0) 5 (ItmO κ j) g l items.zipIdx) :
    Ans (cf F 55 [l, .int .i64 m] g) fun u g2 => ∃ κ2 cells, u = .agg ⟨cells⟩ ∧ cells.length = 7 ∧ cells.all oneCell = true ∧ vcells (.agg ⟨cells⟩) = some cells ∧ Agr g.size κ κ2 ∧ (∀ c, g.size ≤ c → ∀ n kd i k, κ2 c = .ans n kd i k → n = j) ∧ Ch κ (own j) g g2 ∧ Ans (appendTo (Ev.newRow g2 cells 7 []) 7 152 xV 1 cells) fun v' g3 => ∃ x, x.j = j ∧ MB (ext κ2 g2.size (.bk 5)) g3 v' (Bs ++ [x]) J ∧ Ch κ2 (· = .bk 5) g2 g3 := by
  refine (kept_spec (F := F) (by omega) hm few ow).mono ?_
  rintro u g2 ⟨κ2o, L, G, C, P, T, N, rfl, hone, ag2o, ch2, bk0⟩
  have ag2 : Agr g.size κ (recol κ2o g.size j) := fun c hc => (recol_old hc).trans (ag2o c hc)
  have nw2 : ∀ c, g.size ≤ c → ∀ n kd i k, recol κ2o g.size j c = .ans n kd i k → n = j := fun c hc n kd i k e => recol_new hc e
  have bk := bk0.recol (fun c q => recol_ans (n := g.size) q)
  generalize recol κ2o g.size j = κ2 at ag2 nw2 bk
  have ok2 : BRec.Ok κ2 g2 ⟨j, m, items, L, G, C, P, T, N⟩ := ⟨hone, few, hm, bk⟩
  have bl2 := s.bl.tr ch2 (by simp [own]) (fun x hx kd a m => by
    rintro (h | ⟨_, _, _, h⟩)
    · cases h
    · injection h with h; exact hj x hx h) ag2
  refine ⟨κ2, _, rfl, rfl, ?_, rfl, ag2, nw2, ch2, (bl2.app ⟨j, m, items, L, G, C, P, T, N⟩ ok2 (by omega)).mono ?_⟩
  · simp only [List.all_cons, List.all_nil, Bool.and_eq_true] at hone ⊢
    obtain ⟨a, b, c, d, e, f, _⟩ := hone
    exact ⟨a, b, c, d, e, f, rfl, trivial⟩
  · rintro v' g3 ⟨bl3, ch3, _⟩
    refine ⟨_, rfl, ⟨bl3, fun x hx => ?_⟩, ch3⟩
    rcases List.mem_append.1 hx with hx | hx
    · exact s.lt x hx
    · rw [List.mem_singleton.1 hx]; exact hJ

end Go.Proofs.Ytkkagpchcefidaa

/- QueueOwn: marked, one round in parts. -/
set_option linter.unusedSimpArgs false
set_option linter.unusedVariables false
namespace Go.Proofs.Ytkkagpchcefidaa
open Go.Ev

structure MS (κ : Kp) (g : H) (b r f1 b' r' f2 : Nat) (q : Qm) (xV : Value) (Bs : List BRec) (J : Nat) : Prop where
  q0 : QC κ 0 g b r f1 q
  q1 : QC κ 1 g b' r' f2 q
  mb : MB κ g xV Bs J
  fresh : ∀ c, c < g.size → ∀ j kd i m, κ c = .ans j kd i m → j < J

theorem MB.tr {κ κ' : Kp} {S : Col → Prop} {g g' : H} {xV : Value} {Bs : List BRec} {J : Nat} (s : MB κ g xV Bs J) (k : Ch κ S g g') (h5 : ¬ S (.bk 5)) (hS : ∀ j, j < J → ∀ kd i m, ¬ S (.ans j kd i m)) (ag : Agr g.size κ κ') {J' : Nat} (hJ : J ≤ J') : MB κ' g' xV Bs J' :=
  ⟨s.bl.tr k h5 (fun x hx => hS _ (s.lt x hx)) ag, fun x hx => Nat.lt_of_lt_of_le (s.lt x hx) hJ⟩

theorem mS_own {j : Nat} {c : Col} (h : own j c) : mS c := .inr (.inr (.inr ⟨j, h⟩))

def mkA : ACode := (.seq (.region r32_4 [0, 1, 2, 7, 8]) (.region r32_5 [0, 1, 2, 7, 8]))
def mkB : ACode := (.seq (.region r32_6 [0, 1, 2, 7, 8, 9]) (.seq (.region r32_7 [0, 1, 2, 7, 8, 9, 10]) (.region r32_8 [0, 1, 2, 7, 8, 9, 10, 11])))
def mkC : ACode := (.seq (.region r32_9 [0, 1, 2, 7, 8, 9, 11, 55]) (.cond (.tmp 55) (.seq (.region r32_10 [6]) .ret) .skip))
def mkD : ACode := (.seq (.region r32_11 [0, 1, 2, 7, 8, 11]) (.region r32_12 [0, 1, 2, 7, 8]))

set_option maxHeartbeats 2000000 in
theorem mkA_spec {F : Nat} (hF : 17592186044450 ≤ F) {κ : Kp} {g : H} {N b r f1 b' r' f2 i : Nat} {q : Qm} {v xV : Value} {Bs : List BRec} {J : Nat} {script : List Stp} {x : Stp} (s : MS κ g b r f1 b' r' f2 q xV Bs J) (hb : N ≤ b) (hr : N ≤ r) (hb' : N ≤ b') (hr' : N ≤ r') (hlow : ∀ c, c < N → κ c = .old) (hN : N ≤ g.size)
    (sc : SlR (fun c => c < N) 5 (StpC (fun c => c < N)) g v script) (hx : script[i]? = some x)
    {kn kr : K} {ke : Nat → K} {Q : Value → H → Prop}
    (hkn : ∀ g' κ' f1' f2', MS κ' g' b r f1' b' r' f2' (stepM q (fewM x)) xV Bs J → Agr g.size κ κ' → Ch κ mS g g' → Ans (kn [(0, .pointer (some ⟨b, 0, none⟩)), (1, .pointer (some ⟨b', 0, none⟩)), (2, v), (7, xV), (8, .int .i64 i)] g' []) Q) {re : Env} :
    Ans (evC F (cf F) mkA kn ke kr ((0, .pointer (some ⟨b, 0, none⟩)) :: (1, .pointer (some ⟨b', 0, none⟩)) :: (2, v) :: (7, xV) :: (8, .int .i64 i) :: re) g []) Q := by
  have h3 := (List.getElem?_eq_some_iff.1 hx).1
  obtain ⟨b0, o0, c0, cs0, es0, lv0, an0, rfl, hbn, hg0, hle0, hr0⟩ := sc.at' hx
  simp (disch := first | omega | (simp only [newRow_size, Array.size_setIfInBounds, Array.size_push]; done) | (simp only [newRow_size, Array.size_setIfInBounds, Array.size_push]; omega)) [mkA, r32_4, hg0, hle0, h3, callV_fn]
  refine Ans.next (few_spec (F := F) (by omega) hr0) ?_
  rintro u1 g1 ⟨cs, rfl, sx, k1⟩
  refine Ans.next (stepA_spec (F := F) (by omega) s.q0 hb hr sx k1) ?_
  rintro u2 g2 ⟨rfl, κ2, f1b, ag2, qa2, ch2, nw2⟩
  have y2 := ch2.1
  have qb2 := s.q1.tr ch2 (by simp) (by simp) ag2
  have mb2 := s.mb.tr ch2 (by simp) (by simp) ag2 (Nat.le_refl _)
  have fr2 := freshTr s.fresh ag2 nw2
  have low : ∀ c cs, c < N → cel g c = some cs → cel g2 c = some cs := fun c cs hc e => ch2.cel e (by rw [hlow c hc]; simp)
  have hr2 := StpC.imp hr0 (fun _ _ q => q) low
  have hg2 := ch2.get hg0 (by rw [hlow b0 hbn]; simp)
  simp (disch := first | omega | (simp only [newRow_size, Array.size_setIfInBounds, Array.size_push]; done) | (simp only [newRow_size, Array.size_setIfInBounds, Array.size_push]; omega)) [r32_5, hg2, hle0, h3, callV_fn]
  refine Ans.next (few_spec (F := F) (by omega) hr2) ?_
  rintro u3 g3 ⟨cs', rfl, sx', k3⟩
  refine Ans.next (stepA_spec (F := F) (by omega) qb2 hb' hr' sx' k3) ?_
  rintro u4 g4 ⟨rfl, κ4, f2b, ag4, qb4, ch4, nw4⟩
  simp (disch := first | omega | (simp only [newRow_size, Array.size_setIfInBounds, Array.size_push]; done) | (simp only [newRow_size, Array.size_setIfInBounds, Array.size_push]; omega)) []
  exact hkn g4 κ4 f1b f2b ⟨qa2.tr ch4 (by simp) (by simp) ag4, qb4, mb2.tr ch4 (by simp) (by simp) ag4 (Nat.le_refl _), fun c _ => freshTr (fun c _ => fr2 c) ag4 nw4 c⟩ (ag2.trans ag4 y2) ((ch2.weak (fun c h => .inl h)).trans (ch4.weak (fun c h => .inr (.inl h))) ag2)

/-- Three answers in hand. -/
structure M3 (κ : Kp) (g : H) (l p t : Value) (J : Nat) (items : List Itm) : Prop where
  l : BldA (fun c => κ c = .ans J 0 0 0) 5 (ItmO κ J) g l items.zipIdx
  p : BldA (fun c => κ c = .ans (J + 1) 0 0 0) 5 (ItmO κ (J + 1)) g p items.zipIdx
  t : BldA (fun c => κ c = .ans (J + 2) 0 0 0) 5 (ItmO κ (J + 2)) g t items.zipIdx

theorem M3.tr {κ κ' : Kp} {S : Col → Prop} {g g' : H} {l p t : Value} {J : Nat} {items : List Itm} (s : M3 κ g l p t J items) (k : Ch κ S g g') (hS : ∀ j kd i m, ¬ S (.ans j kd i m)) (ag : Agr g.size κ κ') : M3 κ' g' l p t J items :=
  ⟨s.l.tr k (hS _ _ _ _) ag (fun cs n y _ q => q.tr k (fun kd m _ => hS _ _ _ _) ag), s.p.tr k (hS _ _ _ _) ag (fun cs n y _ q => q.tr k (fun kd m _ => hS _ _ _ _) ag), s.t.tr k (hS _ _ _ _) ag (fun cs n y _ q => q.tr k (fun kd m _ => hS _ _ _ _) ag)⟩

theorem fr_next {κ κ' : Kp} {g : H} {J : Nat} (s : ∀ c, c < g.size → ∀ j kd i m, κ c = .ans j kd i m → j < J) (ag : Agr g.size κ κ') (nw : ∀ c, g.size ≤ c → ∃ kd i m, κ' c = .ans J kd i m) : ∀ c, ∀ j kd i m, κ' c = .ans j kd i m → j < J + 1 := by
  intro c j kd a m e
  by_cases h : c < g.size
  · rw [ag c h] at e; have := s c h _ _ _ _ e; omega
  · obtain ⟨_, _, _, e'⟩ := nw c (by omega)
    rw [e'] at e; injection e with e; omega

set_option maxHeartbeats 2000000 in
theorem mkB_spec {F : Nat} (hF : 17592186044450 ≤ F) {κ : Kp} {g : H} {b r f1 b' r' f2 i : Nat} {q : Qm} {v xV : Value} {Bs : List BRec} {J : Nat} (s : MS κ g b r f1 b' r' f2 q xV Bs J)
    {kn kr : K} {ke : Nat → K} {Q : Value → H → Prop}
    (hkn : ∀ g' κ' l p t, MS κ' g' b r f1 b' r' f2 q xV Bs (J + 3) → M3 κ' g' l p t J (nextM q 99) → (∀ x ∈ Bs, x.j < J) → Agr g.size κ κ' → Ch κ mS g g' → Ans (kn [(0, .pointer (some ⟨b, 0, none⟩)), (1, .pointer (some ⟨b', 0, none⟩)), (2, v), (7, xV), (8, .int .i64 i), (9, l), (10, p), (11, t)] g' []) Q) {re : Env} :
    Ans (evC F (cf F) mkB kn ke kr ((0, .pointer (some ⟨b, 0, none⟩)) :: (1, .pointer (some ⟨b', 0, none⟩)) :: (2, v) :: (7, xV) :: (8, .int .i64 i) :: re) g []) Q := by
  simp (disch := first | omega | (simp only [newRow_size, Array.size_setIfInBounds, Array.size_push]; done) | (simp only [newRow_size, Array.size_setIfInBounds, Array.size_push]; omega)) [mkB, r32_6, callV_fn]
  refine Ans.next (answerA_spec (F := F) (j := J) (by omega) s.q0 99 (fun c hc kd a k e => by have := s.fresh c hc _ _ _ _ e; omega)) ?_
  rintro l g5 ⟨κ5, ag5, qa5, ch5, nw5, bl5⟩
  have y5 := ch5.1
  have qb5 := s.q1.tr ch5 (by simp) (by simp) ag5
  have mb5 := s.mb.tr ch5 (by simp) (by simp) ag5 (J' := J + 1) (by omega)
  have fr5 := fr_next s.fresh ag5 nw5
  simp (disch := first | omega | (simp only [newRow_size, Array.size_setIfInBounds, Array.size_push]; done) | (simp only [newRow_size, Array.size_setIfInBounds, Array.size_push]; omega)) [r32_7, callV_fn]
  refine Ans.next (answerA_spec (F := F) (j := J + 1) (by omega) qb5 99 (fun c hc kd a k e => by have := fr5 c _ _ _ _ e; omega)) ?_
  rintro p g6 ⟨κ6, ag6, qb6, ch6, nw6, bp6⟩
  have y6 := ch6.1
  have qa6 := qa5.tr ch6 (by simp) (by simp) ag6
  have mb6 := mb5.tr ch6 (by simp) (by simp) ag6 (J' := J + 2) (by omega)
  have bl6 := bl5.tr (R2 := ItmO κ6 J) ch6 (by simp) ag6 (fun cs n y _ q => q.tr ch6 (by simp) ag6)
  have fr6 := fr_next (fun c _ => fr5 c) ag6 nw6
  simp (disch := first | omega | (simp only [newRow_size, Array.size_setIfInBounds, Array.size_push]; done) | (simp only [newRow_size, Array.size_setIfInBounds, Array.size_push]; omega)) [r32_8, callV_fn]
  refine Ans.next (answerA_spec (F := F) (j := J + 2) (by omega) qa6 99 (fun c hc kd a k e => by have := fr6 c _ _ _ _ e; omega)) ?_
  rintro t g7 ⟨κ7, ag7, qa7, ch7, nw7, bt7⟩
  have fr7 := fr_next (fun c _ => fr6 c) ag7 nw7
  simp (disch := first | omega | (simp only [newRow_size, Array.size_setIfInBounds, Array.size_push]; done) | (simp only [newRow_size, Array.size_setIfInBounds, Array.size_push]; omega)) []
  refine hkn g7 κ7 l p t ⟨qa7, qb6.tr ch7 (by simp) (by simp) ag7, mb6.tr ch7 (by simp) (by simp) ag7 (J' := J + 3) (by omega), fun c _ => fr7 c⟩ ⟨bl6.tr (R2 := ItmO κ7 J) ch7 (by simp) ag7 (fun cs n y _ q => q.tr ch7 (by simp) ag7), bp6.tr (R2 := ItmO κ7 (J + 1)) ch7 (by simp) ag7 (fun cs n y _ q => q.tr ch7 (by simp) ag7), bt7⟩ s.mb.lt (ag5.trans (ag6.trans ag7 y6) y5) ?_
  exact (ch5.weak (fun c h => .inl h)).trans ((ch6.weak (fun c h => .inr (.inl h))).trans (ch7.weak (fun c h => .inl h)) ag6) ag5

theorem mkC_spec {F : Nat} (hF : 17592186044450 ≤ F) {κ : Kp} {g : H} {J i : Nat} {v0 v1 v xV l p t : Value} {items : List Itm} (m3 : M3 κ g l p t J items) (few : FewI items)
    {kn kr : K} {ke : Nat → K} {Q : Value → H → Prop}
    (hkn : ∀ g' (e : Env), Kept g g' [] → Ans (kn ((0, v0) :: (1, v1) :: (2, v) :: (7, xV) :: (8, .int .i64 i) :: (9, l) :: (11, t) :: e) g' []) Q) {re : Env} :
    Ans (evC F (cf F) mkC kn ke kr ((0, v0) :: (1, v1) :: (2, v) :: (7, xV) :: (8, .int .i64 i) :: (9, l) :: (10, p) :: (11, t) :: re) g []) Q := by
  simp (disch := first | omega | (simp only [newRow_size, Array.size_setIfInBounds, Array.size_push]; done) | (simp only [newRow_size, Array.size_setIfInBounds, Array.size_push]; omega)) [mkC, r32_9, callV_fn]
  refine Ans.next (items_same (F := F) (by omega) (ItmO.c m3.l) (ItmO.c m3.p) few.short) ?_
  rintro u8 g8 ⟨rfl, k8⟩
  have m8 := m3.tr (κ' := κ) (Ch.of (S := no) k8) (by simp [no]) (Agr.refl _ _)
  simp (disch := first | omega | (simp only [newRow_size, Array.size_setIfInBounds, Array.size_push]; done) | (simp only [newRow_size, Array.size_setIfInBounds, Array.size_push]; omega)) [eqT, eqF, neT, neF, ltT, ltF, leT, leF, nltT, nltF, nleT, nleF, nneT, nneF, List.getElem?_cons_zero, List.getElem?_cons_succ, callV_fn]
  refine Ans.next (items_same (F := F) (by omega) (ItmO.c m8.t) (ItmO.c m8.p) few.short) ?_
  rintro u9 g9 ⟨rfl, k9⟩
  simp (disch := first | omega | (simp only [newRow_size, Array.size_setIfInBounds, Array.size_push]; done) | (simp only [newRow_size, Array.size_setIfInBounds, Array.size_push]; omega)) [eqT, eqF, neT, neF, ltT, ltF, leT, leF, nltT, nltF, nleT, nleF, nneT, nneF, List.getElem?_cons_zero, List.getElem?_cons_succ]
  exact hkn g9 _ (k8.trans k9)

end Go.Proofs.Ytkkagpchcefidaa

/- QueueOwn: marked, lists kept. -/
set_option linter.unusedSimpArgs false
set_option linter.unusedVariables false
namespace Go.Proofs.Ytkkagpchcefidaa
open Go.Ev

set_option maxHeartbeats 4000000 in
theorem mkD_spec {F : Nat} (hF : 50000 ≤ F) {κ : Kp} {g : H} {b r f1 b' r' f2 i : Nat} {q : Qm} {v xV l p t : Value} {Bs : List BRec} {J : Nat} {items : List Itm} (s : MS κ g b r f1 b' r' f2 q xV Bs (J + 3)) (m3 : M3 κ g l p t J items) (hlt : ∀ x ∈ Bs, x.j < J) (few : FewI items) (hi : i ≤ 20) (hB : Bs.length ≤ 50)
    {kn kr : K} {ke : Nat → K} {Q : Value → H → Prop}
    (hkn : ∀ g' κ' xV' Bs', MS κ' g' b r f1 b' r' f2 q xV' Bs' (J + 3) → Bs'.length = Bs.length + 2 → Agr g.size κ κ' → Ch κ mS g g' → Ans (kn [(0, .pointer (some ⟨b, 0, none⟩)), (1, .pointer (some ⟨b', 0, none⟩)), (2, v), (7, xV'), (8, .int .i64 i)] g' []) Q) {re : Env} :
    Ans (evC F (cf F) mkD kn ke kr ((0, .pointer (some ⟨b, 0, none⟩)) :: (1, .pointer (some ⟨b', 0, none⟩)) :: (2, v) :: (7, xV) :: (8, .int .i64 i) :: (9, l) :: (11, t) :: re) g []) Q := by
  have w1 : IntKind.i64.wrap (IntKind.i64.wrap (2 * (i : Int)) + 1) = ((2 * i + 1 : Nat) : Int) := by
    rw [show IntKind.i64.wrap (2 * (i : Int)) = 2 * (i : Int) by rw [IntKind.wrap_i64]; omega, IntKind.wrap_i64]; omega
  have w2 : IntKind.i64.wrap (IntKind.i64.wrap (2 * (i : Int)) + 2) = ((2 * i + 2 : Nat) : Int) := by
    rw [show IntKind.i64.wrap (2 * (i : Int)) = 2 * (i : Int) by rw [IntKind.wrap_i64]; omega, IntKind.wrap_i64]; omega
  have nj : ∀ {n m : Nat}, n ≠ m → ∀ kd a c, ¬ own m (Col.ans n kd a c) := by
    rintro n m hn kd a c (h | ⟨_, _, _, h⟩)
    · cases h
    · injection h with h; exact hn h
  have nq : ∀ m n, ¬ own m (Col.qs n) := by simp [own]
  have nc : ∀ m n, ¬ own m (Col.qc n) := by simp [own]
  have K1 := keep_app (F := F) (j := J) (J := J + 3) (m := 2 * i + 1) hF s.mb (fun x hx => by have := hlt x hx; omega) (by omega) (by omega) (by omega) few m3.l
  simp (disch := first | omega | (simp only [newRow_size, Array.size_setIfInBounds, Array.size_push]; done) | (simp only [newRow_size, Array.size_setIfInBounds, Array.size_push]; omega)) [mkD, r32_11, w1, callV_fn]
  refine Ans.next K1 ?_
  rintro u2 g2 ⟨κ2, cells, rfl, hcl, hone, hvc, ag2, nw2, ch2, ap⟩
  have y2 := ch2.1
  have htk : cells.take 7 = cells := List.take_of_length_le (by omega)
  simp (disch := first | omega | (simp only [newRow_size, Array.size_setIfInBounds, Array.size_push]; done) | (simp only [newRow_size, Array.size_setIfInBounds, Array.size_push]; omega)) [hcl, hone, htk, srcOf]
  refine Ans.next ap ?_
  rintro xV3 g3 ⟨x3, hx3, mb3, ch3⟩
  have y3 := ch3.1
  have ag3 : Agr g2.size κ2 (ext κ2 g2.size (.bk 5)) := Agr.ext (Nat.le_refl _)
  have nw3 : ∀ c, g2.size ≤ c → ext κ2 g2.size (.bk 5) c = .bk 5 := fun c hc => ext_ge hc
  generalize ext κ2 g2.size (.bk 5) = κ3 at mb3 ag3 nw3
  have t3 := (m3.t.tr (R2 := ItmO κ2 (J + 2)) ch2 (nj (by omega) _ _ _) ag2 (fun cs n y _ q => q.tr ch2 (fun kd m _ => nj (by omega) _ _ _) ag2)).tr (R2 := ItmO κ3 (J + 2)) ch3 (by simp) ag3 (fun cs n y _ q => q.tr ch3 (by simp) ag3)
  have K2 := keep_app (F := F) (j := J + 2) (J := J + 3) (m := 2 * i + 2) hF mb3 (fun x hx => by
    rcases List.mem_append.1 hx with hx | hx
    · have := hlt x hx; omega
    · rw [List.mem_singleton.1 hx, hx3]; omega) (by omega) (by simp; omega) (by omega) few t3
  simp (disch := first | omega | (simp only [newRow_size, Array.size_setIfInBounds, Array.size_push]; done) | (simp only [newRow_size, Array.size_setIfInBounds, Array.size_push]; omega)) [r32_12, w2, callV_fn]
  refine Ans.next K2 ?_
  rintro u4 g4 ⟨κ4, cells', rfl, hcl', hone', hvc', ag4, nw4, ch4, ap'⟩
  have y4 := ch4.1
  have htk' : cells'.take 7 = cells' := List.take_of_length_le (by omega)
  simp (disch := first | omega | (simp only [newRow_size, Array.size_setIfInBounds, Array.size_push]; done) | (simp only [newRow_size, Array.size_setIfInBounds, Array.size_push]; omega)) [hcl', hone', htk', srcOf]
  refine Ans.next ap' ?_
  rintro xV5 g5 ⟨x5, hx5, mb5, ch5⟩
  have ag5 : Agr g4.size κ4 (ext κ4 g4.size (.bk 5)) := Agr.ext (Nat.le_refl _)
  have nw5 : ∀ c, g4.size ≤ c → ext κ4 g4.size (.bk 5) c = .bk 5 := fun c hc => ext_ge hc
  generalize ext κ4 g4.size (.bk 5) = κ5 at mb5 ag5 nw5
  simp (disch := first | omega | (simp only [newRow_size, Array.size_setIfInBounds, Array.size_push]; done) | (simp only [newRow_size, Array.size_setIfInBounds, Array.size_push]; omega)) []
  have qa := (((s.q0.tr ch2 (nq _ _) (nc _ _) ag2).tr ch3 (by simp) (by simp) ag3).tr ch4 (nq _ _) (nc _ _) ag4).tr ch5 (by simp) (by simp) ag5
  have qb := (((s.q1.tr ch2 (nq _ _) (nc _ _) ag2).tr ch3 (by simp) (by simp) ag3).tr ch4 (nq _ _) (nc _ _) ag4).tr ch5 (by simp) (by simp) ag5
  refine hkn g5 κ5 xV5 _ ⟨qa, qb, mb5, ?_⟩ (by simp) (ag2.trans (ag3.trans (ag4.trans ag5 y4) y3) y2) ?_
  · intro c hc j kd a k e
    by_cases h1 : c < g4.size
    · rw [ag5 c h1] at e
      by_cases h2 : c < g3.size
      · rw [ag4 c h2] at e
        by_cases h3 : c < g2.size
        · rw [ag3 c h3] at e
          by_cases h4 : c < g.size
          · rw [ag2 c h4] at e
            exact s.fresh c h4 _ _ _ _ e
          · have := nw2 c (by omega) _ _ _ _ e
            omega
        · rw [nw3 c (by omega)] at e; cases e
      · have := nw4 c (by omega) _ _ _ _ e
        omega
    · rw [nw5 c (by omega)] at e; cases e
  · exact (ch2.weak (fun c h => mS_own h)).trans ((ch3.weak (fun c h => .inr (.inr (.inl h)))).trans ((ch4.weak (fun c h => mS_own h)).trans (ch5.weak (fun c h => .inr (.inr (.inl h)))) ag4) ag3) ag2

end Go.Proofs.Ytkkagpchcefidaa

/- QueueOwn: marked, the whole; the law. -/
set_option linter.unusedSimpArgs false
set_option linter.unusedVariables false
namespace Go.Proofs.Ytkkagpchcefidaa
open Go.Ev

def mkBody : ACode := (.seq (.region r32_4 [0, 1, 2, 7, 8]) (.seq (.region r32_5 [0, 1, 2, 7, 8]) (.seq (.region r32_6 [0, 1, 2, 7, 8, 9]) (.seq (.region r32_7 [0, 1, 2, 7, 8, 9, 10]) (.seq (.region r32_8 [0, 1, 2, 7, 8, 9, 10, 11]) (.seq mkC (.seq (.region r32_11 [0, 1, 2, 7, 8, 11]) (.seq (.region r32_12 [0, 1, 2, 7, 8]) msLoop))))))))
theorem l32_21_cut : l32_21 = (.seq (.seq (.region r32_3 [0, 1, 2, 7, 8, 23]) (.cond (.tmp 23) .skip (.exit 0))) (.seq (.block 1 mkBody) (.region r32_20 [0, 1, 2, 7, 8]))) := rfl

theorem evC_seqF {F : Nat} {cf : CF} {a b : ACode} {kn kr : K} {ke : Nat → K} : evC F cf (.seq a b) kn ke kr = evC F cf a (evC F cf b kn ke kr) ke kr := by
  funext s h ds
  exact evC_seq
theorem body_cut {F : Nat} {cf : CF} {kn kr : K} {ke : Nat → K} : evC F cf mkBody kn ke kr = evC F cf mkA (evC F cf mkB (evC F cf mkC (evC F cf mkD (evC F cf msLoop kn ke kr) ke kr) ke kr) ke kr) ke kr := by
  unfold mkBody mkA mkB mkD
  simp only [evC_seqF]

def mkFin : ACode := (.seq (.region r32_22 [1, 14]) (.seq (.region r32_23 [14, 15]) (.seq (.region r32_24 [6]) .ret)))

theorem mkFin_spec {F : Nat} (hF : 17592186044450 ≤ F) {κ : Kp} {g : H} {b r f1 b' r' f2 : Nat} {q : Qm} {v xV w8 : Value} {Bs : List BRec} {J : Nat} (s : MS κ g b r f1 b' r' f2 q xV Bs J) {re : Env} :
    Ans (evC F (cf F) mkFin (endK (cfX XD) [.tmp 6]) noK (endK (cfX XD) [.tmp 6]) ((0, .pointer (some ⟨b, 0, none⟩)) :: (1, .pointer (some ⟨b', 0, none⟩)) :: (2, v) :: (7, xV) :: (8, w8) :: re) g []) fun u g' => u = .bool true ∧ Ch κ mS g g' := by
  have few := s.q0.few.next 99
  simp (disch := first | omega | (simp only [newRow_size, Array.size_setIfInBounds, Array.size_push]; done) | (simp only [newRow_size, Array.size_setIfInBounds, Array.size_push]; omega)) [mkFin, r32_22, callV_fn]
  refine Ans.next (answerA_spec (F := F) (j := J) (by omega) s.q0 99 (fun c hc kd a k e => by have := s.fresh c hc _ _ _ _ e; omega)) ?_
  rintro l g5 ⟨κ5, ag5, qa5, ch5, nw5, bl5⟩
  have y5 := ch5.1
  have qb5 := s.q1.tr ch5 (by simp) (by simp) ag5
  have fr5 := fr_next s.fresh ag5 nw5
  simp (disch := first | omega | (simp only [newRow_size, Array.size_setIfInBounds, Array.size_push]; done) | (simp only [newRow_size, Array.size_setIfInBounds, Array.size_push]; omega)) [r32_23, callV_fn]
  refine Ans.next (answerA_spec (F := F) (j := J + 1) (by omega) qb5 99 (fun c hc kd a k e => by have := fr5 c _ _ _ _ e; omega)) ?_
  rintro p g6 ⟨κ6, ag6, qb6, ch6, nw6, bp6⟩
  have bl6 := bl5.tr (R2 := ItmO κ6 J) ch6 (by simp) ag6 (fun cs n y _ q => q.tr ch6 (by simp) ag6)
  simp (disch := first | omega | (simp only [newRow_size, Array.size_setIfInBounds, Array.size_push]; done) | (simp only [newRow_size, Array.size_setIfInBounds, Array.size_push]; omega)) [r32_24, callV_fn]
  refine Ans.next (items_same (F := F) (by omega) (ItmO.c bl6) (ItmO.c bp6) few.short) ?_
  rintro u8 g8 ⟨rfl, k8⟩
  have c8 : Ch κ6 no g6 g8 := Ch.of k8
  simp (disch := first | omega | (simp only [newRow_size, Array.size_setIfInBounds, Array.size_push]; done) | (simp only [newRow_size, Array.size_setIfInBounds, Array.size_push]; omega)) []
  exact Ans.of ⟨rfl, (ch5.weak (fun c h => .inl h)).trans ((ch6.weak (fun c h => .inr (.inl h))).trans (c8.weak (fun c h => h.elim)) ag6) ag5⟩

set_option maxHeartbeats 2000000 in
theorem marked_spec {F : Nat} (hF : 17592186044460 ≤ F) {κ : Kp} {g : H} {N b r f1 b' r' f2 : Nat} {q : Qm} {v : Value} {script : List Stp} (q0 : QC κ 0 g b r f1 q) (q1 : QC κ 1 g b' r' f2 q) (hb : N ≤ b) (hr : N ≤ r) (hb' : N ≤ b') (hr' : N ≤ r') (hlow : ∀ c, c < N → κ c = .old) (hN : N ≤ g.size) (hfr : ∀ c, c < g.size → ∀ j kd i m, κ c ≠ .ans j kd i m)
    (sc : SlR (fun c => c < N) 5 (StpC (fun c => c < N)) g v script) :
    Ans (cf F 32 [.pointer (some ⟨b, 0, none⟩), .pointer (some ⟨b', 0, none⟩), v] g) fun u g' => u = .bool true ∧ Ch κ mS g g' := by
  obtain ⟨F, rfl⟩ : ∃ G, F = G + 1 := ⟨F - 1, by omega⟩
  rw [cf_step (a := a32) rfl rfl (by simp [a32])]
  have hl := sc.len
  obtain ⟨M, hM⟩ : ∃ M, M = min script.length 12 := ⟨_, rfl⟩
  have s0 : MS κ g b r f1 b' r' f2 q (.slice none 0 0) [] 0 := ⟨q0, q1, ⟨BL.nil _ _, by simp⟩, fun c hc j kd i m e => absurd e (hfr c hc j kd i m)⟩
  have ea : a32 = ⟨92, (.seq (.region r32_0 [0, 1, 2]) (.seq (.region r32_1 [0, 1, 2, 7]) (.seq (.seq (.region r32_2 [0, 1, 2, 7, 8]) (.block 0 (.loop [0, 1, 2, 7, 8] l32_21))) mkFin))), [.tmp 6]⟩ := rfl
  rw [ea]
  simp (disch := first | omega | (simp only [newRow_size, Array.size_setIfInBounds, Array.size_push]; done) | (simp only [newRow_size, Array.size_setIfInBounds, Array.size_push]; omega)) [r32_0, r32_1, r32_2]
  refine loop_rule (fun mm e g' => ∃ (i : Nat) (κ' : Kp) (f1' f2' : Nat) (q' : Qm) (xV : Value) (Bs : List BRec), mm = M - i ∧ i ≤ M ∧ e = [(0, .pointer (some ⟨b, 0, none⟩)), (1, .pointer (some ⟨b', 0, none⟩)), (2, v), (7, xV), (8, .int .i64 i)] ∧ MS κ' g' b r f1' b' r' f2' q' xV Bs (3 * i) ∧ Bs.length = 2 * i ∧ Agr g.size κ κ' ∧ Ch κ mS g g') ?_ F M _ _ (by omega)
    ⟨0, κ, f1, f2, q, _, [], by omega, by omega, rfl, s0, rfl, Agr.refl _ _, Ch.refl _ _ _⟩
  rintro mm e g' again ⟨i, κ', f1', f2', q', xV, Bs, rfl, hi, rfl, s, hB, ag, ch⟩ ih
  have hw : IntKind.i64.wrap ((i : Int) + 1) = ((i + 1 : Nat) : Int) := by rw [IntKind.wrap_i64]; omega
  have y := ch.1
  by_cases hlt : i < M
  · obtain ⟨x, hx⟩ : ∃ x, script[i]? = some x := ⟨_, List.getElem?_eq_getElem (by omega)⟩
    have h1 : (i : Int) < (script.length : Int) := by omega
    have h2 : (i : Int) < 12 := by omega
    have low : ∀ c cs, c < N → cel g c = some cs → cel g' c = some cs := fun c cs hc e => ch.cel e (by rw [hlow c hc]; simp [mS, own])
    have sc' : SlR (fun c => c < N) 5 (StpC (fun c => c < N)) g' v script := sc.imp (fun _ _ q => q) (fun cs x _ q => q.imp (fun _ _ q => q) low) low
    simp (disch := first | omega | (simp only [newRow_size, Array.size_setIfInBounds, Array.size_push]; done) | (simp only [newRow_size, Array.size_setIfInBounds, Array.size_push]; omega)) [l32_21_cut, r32_3, hl, h1, h2, eqT, eqF, neT, neF, ltT, ltF, leT, leF, nltT, nltF, nleT, nleF, nneT, nneF, List.getElem?_cons_zero, List.getElem?_cons_succ]
    rw [body_cut]
    refine mkA_spec (F := F) (by omega) s hb hr hb' hr' (fun c hc => (ag c (by omega)).trans (hlow c hc)) (by omega) sc' hx ?_
    intro g2 κ2 f1b f2b s2 ag2 ch2
    have y2 := ch2.1
    refine mkB_spec (F := F) (by omega) s2 (re := []) ?_
    intro g3 κ3 l p t s3 m3 hlt3 ag3 ch3
    have y3 := ch3.1
    have few := s2.q0.few.next 99
    refine mkC_spec (F := F) (by omega) m3 few (re := []) ?_
    intro g4 e4 k4
    have c4 : Ch κ3 no g3 g4 := Ch.of k4
    have y4 := c4.1
    have ag4 : Agr g3.size κ3 (ext κ3 g3.size .old) := Agr.ext (Nat.le_refl _)
    have nw4 : ∀ c, g3.size ≤ c → ext κ3 g3.size .old c = .old := fun c hc => ext_ge hc
    generalize ext κ3 g3.size .old = κ4 at ag4 nw4
    have s4 : MS κ4 g4 b r f1b b' r' f2b (stepM q' (fewM x)) xV Bs (3 * i + 3) := ⟨s3.q0.tr c4 (by simp [no]) (by simp [no]) ag4, s3.q1.tr c4 (by simp [no]) (by simp [no]) ag4, s3.mb.tr c4 (by simp [no]) (by simp [no]) ag4 (Nat.le_refl _), fun c _ => freshTr s3.fresh ag4 (fun c hc j kd i m => by rw [nw4 c hc]; simp) c⟩
    refine mkD_spec (F := F) (by omega) s4 (m3.tr c4 (by simp [no]) ag4) hlt3 few (by omega) (by omega) ?_
    intro g5 κ5 xV5 Bs5 s5 hB5 ag5 ch5
    have y5 := ch5.1
    refine msLoop_spec (F := F) (by omega) s5.mb.bl (by omega) ?_
    intro g6 e6 k6
    have c6 : Ch κ5 no g5 g6 := Ch.of k6
    have ag6 : Agr g5.size κ5 (ext κ5 g5.size .old) := Agr.ext (Nat.le_refl _)
    have nw6 : ∀ c, g5.size ≤ c → ext κ5 g5.size .old c = .old := fun c hc => ext_ge hc
    generalize ext κ5 g5.size .old = κ6 at ag6 nw6
    have s6 : MS κ6 g6 b r f1b b' r' f2b (stepM q' (fewM x)) xV5 Bs5 (3 * i + 3) := ⟨s5.q0.tr c6 (by simp [no]) (by simp [no]) ag6, s5.q1.tr c6 (by simp [no]) (by simp [no]) ag6, s5.mb.tr c6 (by simp [no]) (by simp [no]) ag6 (Nat.le_refl _), fun c _ => freshTr s5.fresh ag6 (fun c hc j kd i m => by rw [nw6 c hc]; simp) c⟩
    simp (disch := first | omega | (simp only [newRow_size, Array.size_setIfInBounds, Array.size_push]; done) | (simp only [newRow_size, Array.size_setIfInBounds, Array.size_push]; omega)) [r32_20, hw]
    have cAll : Ch κ' mS g' g6 := ch2.trans (ch3.trans ((c4.weak (fun c h => h.elim)).trans (ch5.trans (c6.weak (fun c h => h.elim)) ag5) ag4) ag3) ag2
    have aAll : Agr g'.size κ' κ6 := ag2.trans (ag3.trans (ag4.trans (ag5.trans ag6 y5) y4) y3) y2
    exact ih (M - (i + 1)) _ _ (by omega) ⟨i + 1, κ6, f1b, f2b, _, xV5, Bs5, rfl, by omega, rfl, s6, by omega, ag.trans aAll y, ch.trans cAll ag⟩
  · have hiM : i = M := by omega
    subst hiM
    have fin : ∀ re, Ans (evC F (cf F) mkFin (endK (cfX XD) [.tmp 6]) noK (endK (cfX XD) [.tmp 6]) ((0, .pointer (some ⟨b, 0, none⟩)) :: (1, .pointer (some ⟨b', 0, none⟩)) :: (2, v) :: (7, xV) :: (8, .int .i64 i) :: re) g' []) fun u g' => u = .bool true ∧ Ch κ mS g g' := fun re =>
      (mkFin_spec (F := F) (v := v) (w8 := .int .i64 i) (re := re) (by omega) s).mono (by
        rintro u g2 ⟨rfl, c⟩
        exact ⟨rfl, ch.trans c ag⟩)
    by_cases c1 : i < script.length
    · have h1 : (i : Int) < (script.length : Int) := by omega
      have h2 : ¬ (i : Int) < 12 := by omega
      simp (disch := first | omega | (simp only [newRow_size, Array.size_setIfInBounds, Array.size_push]; done) | (simp only [newRow_size, Array.size_setIfInBounds, Array.size_push]; omega)) [l32_21_cut, r32_3, hl, h1, h2, eqT, eqF, neT, neF, ltT, ltF, leT, leF, nltT, nltF, nleT, nleF, nneT, nneF, List.getElem?_cons_zero, List.getElem?_cons_succ]
      exact fin _
    · have h1 : ¬ (i : Int) < (script.length : Int) := by omega
      simp (disch := first | omega | (simp only [newRow_size, Array.size_setIfInBounds, Array.size_push]; done) | (simp only [newRow_size, Array.size_setIfInBounds, Array.size_push]; omega)) [l32_21_cut, r32_3, hl, h1, eqT, eqF, neT, neF, ltT, ltF, leT, leF, nltT, nltF, nleT, nleF, nneT, nneF, List.getElem?_cons_zero, List.getElem?_cons_succ]
      exact fin _

end Go.Proofs.Ytkkagpchcefidaa

/- QueueOwn: the law. -/
set_option linter.unusedSimpArgs false
set_option linter.unusedVariables false
namespace Go.Proofs.Ytkkagpchcefidaa
open Go.Ev

def OwnTrue (u : Value) (_ : H) : Prop := u = .bool true

set_option maxHeartbeats 2000000 in
theorem queueOwn_spec {F : Nat} (hF : 17592186044470 ≤ F) {h : H} (room begin' : Int) {v : Value} {script : List Stp} (s : SlR (fun b => b < h.size) 5 (StpC (fun b => b < h.size)) h v script) :
    Ans (cf F 13 [.int .i64 room, .int .i64 begin', v] h) OwnTrue := by
  obtain ⟨F, rfl⟩ : ∃ G, F = G + 1 := ⟨F - 1, by omega⟩
  rw [cf_step (a := a13) rfl rfl (by simp [a13])]
  by_cases hroom : room < 1 ∨ 32 < room
  · simp (disch := first | omega | (simp only [newRow_size, Array.size_setIfInBounds, Array.size_push]; done) | (simp only [newRow_size, Array.size_setIfInBounds, Array.size_push]; omega)) [a13, r13_0, r13_1, r13_2, r13_3, New_bad1 (F := F) (by omega) h room begin' hroom, r13_4, num_eq (F := F) (by omega), r13_6, r13_7, eqT, eqF, neT, neF, ltT, ltF, leT, leF, nltT, nltF, nleT, nleF, nneT, nneF, List.getElem?_cons_zero, List.getElem?_cons_succ]
    refine Ans.next (known_spec (F := F) (by omega) h) ?_
    rintro u h2 ⟨rfl, k2⟩
    simp (disch := first | omega | (simp only [newRow_size, Array.size_setIfInBounds, Array.size_push]; done) | (simp only [newRow_size, Array.size_setIfInBounds, Array.size_push]; omega)) [eqT, eqF, neT, neF, ltT, ltF, leT, leF, nltT, nltF, nleT, nleF, nneT, nneF, List.getElem?_cons_zero, List.getElem?_cons_succ]
    exact Ans.of rfl
  by_cases hbeg : begin' < 0 ∨ 2147483647 < begin'
  · simp (disch := first | omega | (simp only [newRow_size, Array.size_setIfInBounds, Array.size_push]; done) | (simp only [newRow_size, Array.size_setIfInBounds, Array.size_push]; omega)) [a13, r13_0, r13_1, r13_2, r13_3, New_bad2 (F := F) (by omega) h room begin' (by omega) (by omega) hbeg, r13_4, num_eq (F := F) (by omega), r13_6, r13_7, eqT, eqF, neT, neF, ltT, ltF, leT, leF, nltT, nltF, nleT, nleF, nneT, nneF, List.getElem?_cons_zero, List.getElem?_cons_succ]
    refine Ans.next (known_spec (F := F) (by omega) h) ?_
    rintro u h2 ⟨rfl, k2⟩
    simp (disch := first | omega | (simp only [newRow_size, Array.size_setIfInBounds, Array.size_push]; done) | (simp only [newRow_size, Array.size_setIfInBounds, Array.size_push]; omega)) [eqT, eqF, neT, neF, ltT, ltF, leT, leF, nltT, nltF, nleT, nleF, nneT, nneF, List.getElem?_cons_zero, List.getElem?_cons_succ]
    exact Ans.of rfl
  simp (disch := first | omega | (simp only [newRow_size, Array.size_setIfInBounds, Array.size_push]; done) | (simp only [newRow_size, Array.size_setIfInBounds, Array.size_push]; omega)) [a13, r13_0, r13_1]
  refine Ans.next (New_spec (F := F) (by omega) h room begin' (by omega) (by omega) (by omega) (by omega)) ?_
  rintro v1 h1 ⟨b1, r1, rfl, s1, zb1, zr1, lb1, lr1, ne1, k1⟩
  have y1 := k1.1
  simp (disch := first | omega | (simp only [newRow_size, Array.size_setIfInBounds, Array.size_push]; done) | (simp only [newRow_size, Array.size_setIfInBounds, Array.size_push]; omega)) [eqT, eqF, neT, neF, ltT, ltF, leT, leF, nltT, nltF, nleT, nleF, nneT, nneF, List.getElem?_cons_zero, List.getElem?_cons_succ, r13_2]
  refine Ans.next (New_spec (F := F) (by omega) h1 room begin' (by omega) (by omega) (by omega) (by omega)) ?_
  rintro v2 h2 ⟨b2, r2, rfl, s2, zb2, zr2, lb2, lr2, ne2, k2⟩
  have y2 := k2.1
  simp (disch := first | omega | (simp only [newRow_size, Array.size_setIfInBounds, Array.size_push]; done) | (simp only [newRow_size, Array.size_setIfInBounds, Array.size_push]; omega)) [eqT, eqF, neT, neF, ltT, ltF, leT, leF, nltT, nltF, nleT, nleF, nneT, nneF, List.getElem?_cons_zero, List.getElem?_cons_succ, r13_3]
  refine Ans.next (New_spec (F := F) (by omega) h2 room begin' (by omega) (by omega) (by omega) (by omega)) ?_
  rintro v3 h3 ⟨b3, r3, rfl, s3, zb3, zr3, lb3, lr3, ne3, k3⟩
  have y3 := k3.1
  simp (disch := first | omega | (simp only [newRow_size, Array.size_setIfInBounds, Array.size_push]; done) | (simp only [newRow_size, Array.size_setIfInBounds, Array.size_push]; omega)) [r13_4, num_eq (F := F) (by omega), r13_6, eqT, eqF, neT, neF, ltT, ltF, leT, leF, nltT, nltF, nleT, nleF, nneT, nneF, List.getElem?_cons_zero, List.getElem?_cons_succ]
  have good : (Qm.new room begin').Good := Qm.Good.new (by omega) (by omega) (by omega) (by omega)
  have few : FewI (Qm.new room begin').items := ⟨by simp [Qm.new], by simp [Qm.new]⟩
  -- the colours
  obtain ⟨κ, hκ⟩ : ∃ κ : Kp, κ = fun c => if c = b1 ∨ c = r1 then .qs 0 else if c = b2 ∨ c = r2 then .qs 1 else if c = b3 ∨ c = r3 then .qs 2 else .old := ⟨_, rfl⟩
  have kb1 : κ b1 = .qs 0 := by rw [hκ]; simp
  have kr1 : κ r1 = .qs 0 := by rw [hκ]; simp
  have kb2 : κ b2 = .qs 1 := by
    have e1 : ¬ (b2 = b1 ∨ b2 = r1) := by omega
    rw [hκ]; simp [e1]
  have kr2 : κ r2 = .qs 1 := by
    have e1 : ¬ (r2 = b1 ∨ r2 = r1) := by omega
    rw [hκ]; simp [e1]
  have kb3 : κ b3 = .qs 2 := by
    have e1 : ¬ (b3 = b1 ∨ b3 = r1) := by omega
    have e2 : ¬ (b3 = b2 ∨ b3 = r2) := by omega
    rw [hκ]; simp [e1, e2]
  have kr3 : κ r3 = .qs 2 := by
    have e1 : ¬ (r3 = b1 ∨ r3 = r1) := by omega
    have e2 : ¬ (r3 = b2 ∨ r3 = r2) := by omega
    rw [hκ]; simp [e1, e2]
  have klow : ∀ c, c < h.size → κ c = .old := by
    intro c hc
    have e1 : ¬ (c = b1 ∨ c = r1) := by omega
    have e2 : ¬ (c = b2 ∨ c = r2) := by omega
    have e3 : ¬ (c = b3 ∨ c = r3) := by omega
    rw [hκ]; simp [e1, e2, e3]
  have kans : ∀ c j kd i m, κ c ≠ .ans j kd i m := by
    intro c j kd i m
    rw [hκ]
    simp only
    split
    · simp
    split
    · simp
    split <;> simp
  have kqc : ∀ c n, κ c ≠ .qc n := by
    intro c n
    rw [hκ]
    simp only
    split
    · simp
    split
    · simp
    split <;> simp
  have qc1 : QC κ 0 h3 b1 r1 0 (Qm.new room begin') := ⟨((s1 _ (kqc _ _) (kqc _ _)).frame k2).frame k3, kb1, kr1, good, few⟩
  have qc2 : QC κ 1 h3 b2 r2 0 (Qm.new room begin') := ⟨(s2 _ (kqc _ _) (kqc _ _)).frame k3, kb2, kr2, good, few⟩
  have qc3 : QC κ 2 h3 b3 r3 0 (Qm.new room begin') := ⟨s3 _ (kqc _ _) (kqc _ _), kb3, kr3, good, few⟩
  have k13 := k1.trans (k2.trans k3)
  have low3 : ∀ c cs, c < h.size → cel h c = some cs → cel h3 c = some cs := fun c cs hc e => (k13.c.2 c hc (by simp)).trans e
  have sc3 : SlR (fun c => c < h.size) 5 (StpC (fun c => c < h.size)) h3 v script := s.imp (fun _ _ q => q) (fun cs x _ q => q.imp (fun _ _ q => q) low3) low3
  simp (disch := first | omega | (simp only [newRow_size, Array.size_setIfInBounds, Array.size_push]; done) | (simp only [newRow_size, Array.size_setIfInBounds, Array.size_push]; omega)) [r13_8, callV_fn]
  refine Ans.next (marked_spec (F := F) (by omega) qc1 qc2 (by omega) (by omega) (by omega) (by omega) klow (by omega) (fun c _ => kans c) sc3) ?_
  rintro u4 h4 ⟨rfl, ch4⟩
  have y4 := ch4.1
  have ag4 : Agr h3.size κ (ext κ h3.size .old) := Agr.ext (Nat.le_refl _)
  have nw4 : ∀ c, h3.size ≤ c → ext κ h3.size .old c = .old := fun c hc => ext_ge hc
  generalize ext κ h3.size .old = κ4 at ag4 nw4
  have qc4 := qc3.tr ch4 (by simp [mS, own]) (by simp [mS, own]) ag4
  have low4 : ∀ c cs, c < h.size → cel h3 c = some cs → cel h4 c = some cs := fun c cs hc e => ch4.cel e (by rw [klow c hc]; simp [mS, own])
  have sc4 : SlR (fun c => c < h.size) 5 (StpC (fun c => c < h.size)) h4 v script := sc3.imp (fun _ _ q => q) (fun cs x _ q => q.imp (fun _ _ q => q) low4) low4
  simp (disch := first | omega | (simp only [newRow_size, Array.size_setIfInBounds, Array.size_push]; done) | (simp only [newRow_size, Array.size_setIfInBounds, Array.size_push]; omega)) [eqT, eqF, neT, neF, ltT, ltF, leT, leF, nltT, nltF, nleT, nleF, nneT, nneF, List.getElem?_cons_zero, List.getElem?_cons_succ, callV_fn]
  refine Ans.next (held_spec (F := F) (by omega) qc4 (by omega) (by omega) (fun c hc => (ag4 c (by omega)).trans (klow c hc)) (by omega) (fun c hc j kd i m => by
    by_cases h' : c < h3.size
    · rw [ag4 c h']; exact kans c j kd i m
    · rw [nw4 c (by omega)]; simp) sc4) ?_
  rintro u5 h5 rfl
  simp (disch := first | omega | (simp only [newRow_size, Array.size_setIfInBounds, Array.size_push]; done) | (simp only [newRow_size, Array.size_setIfInBounds, Array.size_push]; omega)) [eqT, eqF, neT, neF, ltT, ltF, leT, leF, nltT, nltF, nleT, nleF, nneT, nneF, List.getElem?_cons_zero, List.getElem?_cons_succ, callV_fn]
  refine Ans.next (known_spec (F := F) (by omega) h5) ?_
  rintro u6 h6 ⟨rfl, k6⟩
  simp (disch := first | omega | (simp only [newRow_size, Array.size_setIfInBounds, Array.size_push]; done) | (simp only [newRow_size, Array.size_setIfInBounds, Array.size_push]; omega)) [eqT, eqF, neT, neF, ltT, ltF, leT, leF, nltT, nltF, nleT, nleF, nneT, nneF, List.getElem?_cons_zero, List.getElem?_cons_succ]
  exact Ans.of rfl

end Go.Proofs.Ytkkagpchcefidaa
