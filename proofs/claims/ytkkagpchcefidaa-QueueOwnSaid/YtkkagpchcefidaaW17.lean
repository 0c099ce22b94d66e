/- Several texts in one: Qw7, Qw8, Qw9, Qw10, Qw11, Qw12, Qw13, Qw14, Qw15. -/
import Derived.Test.YtkkagpchcefidaaW16

/- QueueOwn: full. -/
set_option linter.unusedSimpArgs false
set_option linter.unusedVariables false
namespace Go.Ev

theorem BldA.split {α : Type} {ok : Nat → Prop} {w : Nat} {R : H → List Value → α → Prop} {h : H} {v : Value} {xs : List α} (s : BldA ok w R h v xs) {i : Nat} {x : α} (hx : xs[i]? = some x) :
    ∃ cs, R h cs x ∧ ∀ {R2 : H → List Value → α → Prop}, (∀ cs (k : Nat) z, xs[k]? = some z → k ≠ i → R h cs z → R2 h cs z) → R2 h cs x → BldA ok w R2 h v xs := by
  have hil := (List.getElem?_eq_some_iff.1 hx).1
  rcases s with ⟨_, e'⟩ | ⟨b, cs, an, e, hk, ha, hg, hl, hi⟩
  · subst e'; simp at hil
  · refine ⟨_, hi i x hx, fun {R2} h1 h2 => .inr ⟨b, cs, an, e, hk, ha, hg, hl, fun k z hz => ?_⟩⟩
    by_cases hki : k = i
    · subst hki
      rw [hx] at hz
      cases hz
      exact h2
    · exact h1 _ k z hz hki (hi k z hz)

end Go.Ev
namespace Go.Proofs.Ytkkagpchcefidaa
open Go.Ev

def ItL (κ : Kp) (j i : Nat) (m : Int) (g : H) (cs : List Value) (x : Itm × Nat) : Prop := if x.2 < i then R1i m cs else ItmO κ j g cs x

theorem ItL.tr {κ κ' : Kp} {S : Col → Prop} {j i : Nat} {g g' : H} {m : Int} {cs : List Value} {x : Itm × Nat} (s : ItL κ j i m g cs x) (k : Ch κ S g g') (hS : ∀ kd i' m', 1 ≤ kd → i ≤ i' → ¬ S (.ans j kd i' m')) (hk : Agr g.size κ κ') : ItL κ' j i m g' cs x := by
  unfold ItL at s ⊢
  split at s
  · rename_i h; rw [if_pos h]; exact s
  · rename_i h
    rw [if_neg h]
    exact s.tr k (fun kd m' hk => hS kd _ m' hk (by omega)) hk

def fC (j : Nat) (m : Int) (items : List Itm) : List (Ent × Nat) := items.zipIdx.map fun y => (⟨.ans j 1 y.2 0, y.1.chgs.length, ownM m y.2 9999⟩, 0)
def fP (j : Nat) (m : Int) (items : List Itm) : List (Ent × Nat) := items.zipIdx.map fun y => (⟨.ans j 2 y.2 0, y.1.prts.length, ownM m y.2 9999⟩, 0)
def fTs (j : Nat) (m : Int) (l : List (Itm × Nat)) : List (Ent × Nat) := l.flatMap fun y => fT j y.2 m y.1.chgs
def fNs (j : Nat) (m : Int) (l : List (Itm × Nat)) : List (Ent × Nat) := l.flatMap fun y => fN j y.2 m y.1.prts

theorem flat_len {α β : Type} (f : α → List β) (c : Nat) : ∀ (l : List α), (∀ x ∈ l, (f x).length ≤ c) → (l.flatMap f).length ≤ l.length * c
  | [], _ => by simp
  | x :: l, h => by
    have h1 := flat_len f c l (fun y hy => h y (by simp [hy]))
    have h2 := h x (by simp)
    rw [List.flatMap_cons, List.length_append, List.length_cons, Nat.succ_mul]
    omega

/-- Items of which each list is short. -/
def FewI (items : List Itm) : Prop := items.length ≤ 32 ∧ ∀ x ∈ items, x.chgs.length ≤ 24 ∧ (∀ t ∈ x.chgs, t.tags.length ≤ 24) ∧ x.prts.length ≤ 24 ∧ ∀ t ∈ x.prts, t.nodes.length ≤ 24

theorem fT_len (j i : Nat) (m : Int) (l : List Tgd) : (fT j i m l).length = l.length := by simp [fT]
theorem fN_len (j i : Nat) (m : Int) (l : List Prt) : (fN j i m l).length = l.length := by simp [fN]

def itBody : ACode := (.seq (.region r65_4 [0, 1, 4, 5, 6, 7]) (.seq chIn (.seq ptIn (.seq (.regionD d65_29 [] [0, 1, 4, 5, 6, 7]) (.seq (.regionD d65_30 [] [0, 1, 4, 5, 6]) (.region r65_31 [0, 1, 4, 5, 6]))))))
theorem l65_33_cut : l65_33 = (.seq (.seq (.region r65_3 [0, 1, 4, 5, 6, 21]) (.cond (.tmp 21) .skip (.exit 0))) (.seq (.block 1 itBody) (.region r65_32 [0, 1, 4, 5, 6]))) := rfl

set_option maxHeartbeats 4000000 in
theorem itBody_spec {F : Nat} (hF : 100 ≤ F) {κ : Kp} {j : Nat} {g : H} {kb : Nat} {v0 C P T N v4 : Value} {m : Nat} {eC eP eT eN : List (Ent × Nat)} {items : List Itm} {i : Nat} {x : Itm} (hx : items[i]? = some x) (hm : m ≤ 1000) (few : FewI items)
    (hC : eC.length ≤ 10000) (hP : eP.length ≤ 10000) (hT : eT.length ≤ 10000) (hN : eN.length ≤ 10000)
    (fb : FB κ j g kb v0 v0 C P T N m eC eP eT eN) (is : BldA (fun c => κ c = .ans j 0 0 0) 5 (ItL κ j i m) g v0 items.zipIdx) (pa : Past j i 0 0 eC eP eT eN) {re : Env}
    {kn kr : K} {ke : Nat → K} {Q : Value → H → Prop}
    (hkn : ∀ g' κ' C' P' T' N' (e : Env), FB κ' j g' kb v0 v0 C' P' T' N' m (eC ++ [(⟨.ans j 1 i 0, x.chgs.length, ownM m i 9999⟩, 0)]) (eP ++ [(⟨.ans j 2 i 0, x.prts.length, ownM m i 9999⟩, 0)]) (eT ++ fT j i m x.chgs) (eN ++ fN j i m x.prts) →
      BldA (fun c => κ' c = .ans j 0 0 0) 5 (ItL κ' j (i + 1) m) g' v0 items.zipIdx → Past j (i + 1) 0 0 (eC ++ [(⟨.ans j 1 i 0, x.chgs.length, ownM m i 9999⟩, 0)]) (eP ++ [(⟨.ans j 2 i 0, x.prts.length, ownM m i 9999⟩, 0)]) (eT ++ fT j i m x.chgs) (eN ++ fN j i m x.prts) → Agr g.size κ κ' → Ch κ (own j) g g' →
      Ans (kn ((0, v0) :: (1, .int .i64 m) :: (4, v4) :: (5, .pointer (some ⟨kb, 0, none⟩)) :: (6, .int .i64 i) :: e) g' []) Q) :
    Ans (evC F (cf F) itBody kn ke kr ((0, v0) :: (1, .int .i64 m) :: (4, v4) :: (5, .pointer (some ⟨kb, 0, none⟩)) :: (6, .int .i64 i) :: re) g []) Q := by
  obtain ⟨few1, few2⟩ := few
  obtain ⟨fc1, fc2, fp1, fp2⟩ := few2 x (List.mem_of_getElem? hx)
  have hi := (List.getElem?_eq_some_iff.1 hx).1
  have ho := own_eq (F := F) (by omega) g (m := m) (i := i) (k := 9999) (by omega) (by omega) (by omega)
  simp (disch := first | omega | (simp only [newRow_size, Array.size_setIfInBounds, Array.size_push]; done) | (simp only [newRow_size, Array.size_setIfInBounds, Array.size_push]; omega)) [itBody, r65_4, callV_fn, ho]
  -- the item taken apart
  obtain ⟨cs0, r0, sp⟩ := is.split (zip_at hx)
  simp only [ItL, Nat.lt_irrefl, if_false] at r0
  obtain ⟨vI, wI, rfl, bC0, bP0⟩ := r0
  have rs : Rest κ j g v0 m items i vI wI x 0 0 0 0 (ownM m i 9999) := by
    refine ⟨sp (fun cs n z hz hn q => ?_) ?_, bC0.to (Nat.le_refl _) rfl (fun _ _ q => q) (fun _ _ e _ => e) (fun cs n y z hy hz q => by rw [hy] at hz; cases hz; simpa [ChS] using q), bP0.to (Nat.le_refl _) rfl (fun _ _ q => q) (fun _ _ e _ => e) (fun cs n y z hy hz q => by rw [hy] at hz; cases hz; simpa [PrS] using q)⟩
    · obtain ⟨_, hzn⟩ := zip_inv hz
      unfold ItL at q
      unfold ItS
      by_cases h1 : z.2 < i
      · rw [if_pos h1] at q ⊢; exact q
      · rw [if_neg h1] at q ⊢
        rw [if_neg (by omega)]
        exact q
    · unfold ItS
      rw [if_neg (Nat.lt_irrefl _), if_pos rfl]
      exact ⟨_, _, _, rfl⟩
  refine chIn_spec hF hx hm (by omega) fc1 fc2 hT fb rs pa ?_
  intro g1 κ1 T1 e1 fb1 rs1 pa1 ag1 ch1
  refine ptIn_spec hF hx hm (by omega) fp1 fp2 hN fb1 rs1 pa1 ?_
  intro g2 κ2 N2 e2 fb2 rs2 pa2 ag2 ch2
  have y1 := ch1.1
  have y2 := ch2.1
  obtain ⟨ba, csa, ana, rfl, hka, hga, hla, hra⟩ := rs2.is.row (zip_at hx)
  simp only [List.length_zipIdx] at *
  simp only [ItS, Nat.lt_irrefl, if_false, if_true] at hra
  obtain ⟨a1, a2, a3, hra⟩ := hra
  obtain ⟨_, hv3, hv4, _⟩ := get5 hra
  -- the list of changes put behind
  have bC2 : BldA (fun c => κ2 c = .ans j 1 i 0) 5 PrC g2 vI (List.replicate x.chgs.length (R1c (ownM m i 9999))) := rs2.cs.to (Nat.le_refl _) (by simp) (fun _ _ q => q) (fun _ _ e _ => e) (fun cs n y z hy hz q => by
    obtain ⟨hy1, hy2⟩ := zip_inv hy
    have := (List.getElem?_eq_some_iff.1 hy1).1
    rw [List.getElem?_replicate, if_pos (by omega)] at hz
    cases hz
    unfold ChS at q
    rw [if_pos (by omega)] at q
    exact q)
  have bP2 : BldA (fun c => κ2 c = .ans j 2 i 0) 5 PrC g2 wI (List.replicate x.prts.length (R1p (ownM m i 9999))) := rs2.ps.to (Nat.le_refl _) (by simp) (fun _ _ q => q) (fun _ _ e _ => e) (fun cs n y z hy hz q => by
    obtain ⟨hy1, hy2⟩ := zip_inv hy
    have := (List.getElem?_eq_some_iff.1 hy1).1
    rw [List.getElem?_replicate, if_pos (by omega)] at hz
    cases hz
    unfold PrS at q
    rw [if_pos (by omega)] at q
    exact q)
  have adC := fb2.addC pa2.kC pa2.kP pa2.kT pa2.kN (i := i) (k := 0) (n := x.chgs.length) (mk := ownM m i 9999) bC2 (by omega)
  have hkb2 := fb2.kbc
  have hkb2s := lt_of_get hkb2
  have lC := bC2.sl.len
  rw [List.length_replicate] at lC
  have oC := bC2.sl.one
  have vC := bC2.sl.vc
  simp only [oneCell] at oC
  simp only [vcells] at vC
  simp (disch := first | omega | (simp only [newRow_size, Array.size_setIfInBounds, Array.size_push]; done) | (simp only [newRow_size, Array.size_setIfInBounds, Array.size_push]; omega)) [d65_29, eqT, eqF, neT, neF, ltT, ltF, leT, leF, nltT, nltF, nleT, nleF, nneT, nneF, List.getElem?_cons_zero, List.getElem?_cons_succ, hkb2, hga, hla, hv3, hi, lC, oC, vC, srcOf]
  refine Ans.nextE adC ?_
  rintro C3 g3 ⟨oC3, vC3, hkb3, κ3, ag3, ch3, fb3⟩
  have hkb3s := lt_of_get hkb3
  simp only [oneCell] at oC3
  simp only [vcells] at vC3
  simp only [List.set] at ch3 fb3
  simp (disch := first | omega | (simp only [newRow_size, Array.size_setIfInBounds, Array.size_push]; done) | (simp only [newRow_size, Array.size_setIfInBounds, Array.size_push]; omega)) [hkb3, oC3, vC3, eqT, eqF, neT, neF, ltT, ltF, leT, leF, nltT, nltF, nleT, nleF, nneT, nneF, List.getElem?_cons_zero, List.getElem?_cons_succ, hkb3s]
  generalize g3.setIfInBounds kb (.cells [.slice (some ⟨ba, 0, none⟩) items.length items.length, .slice (some ⟨ba, 0, none⟩) items.length items.length, C3, P, T1, N2, .int .i64 m] 0 true []) = g4 at ch3 fb3 ⊢
  have y3 := ch3.1
  have hga4 := ch3.get hga (by rw [hka]; simp)
  have bP4 := bP2.tr (R2 := PrC) ch3 (by simp) ag3 (fun _ _ _ _ q => q)
  have k3 : Kinds j 1 (eC ++ [(⟨.ans j 1 i 0, x.chgs.length, ownM m i 9999⟩, 0)]) := fun y hy => by
    rcases List.mem_append.1 hy with hy | hy
    · exact pa2.kC y hy
    · rw [List.mem_singleton.1 hy]; exact ⟨_, _, rfl⟩
  have adP := fb3.addP k3 pa2.kP pa2.kT pa2.kN (i := i) (k := 0) (n := x.prts.length) (mk := ownM m i 9999) bP4 (by omega)
  have hkb4 := fb3.kbc
  have hkb4s := lt_of_get hkb4
  have lP := bP4.sl.len
  rw [List.length_replicate] at lP
  have oP := bP4.sl.one
  have vP := bP4.sl.vc
  simp only [oneCell] at oP
  simp only [vcells] at vP
  simp (disch := first | omega | (simp only [newRow_size, Array.size_setIfInBounds, Array.size_push]; done) | (simp only [newRow_size, Array.size_setIfInBounds, Array.size_push]; omega)) [d65_30, eqT, eqF, neT, neF, ltT, ltF, leT, leF, nltT, nltF, nleT, nleF, nneT, nneF, List.getElem?_cons_zero, List.getElem?_cons_succ, hkb4, hga4, hla, hv4, hi, lP, oP, vP, srcOf]
  refine Ans.nextE adP ?_
  rintro P5 g5 ⟨oP5, vP5, hkb5, κ5, ag5, ch5, fb5⟩
  have hkb5s := lt_of_get hkb5
  simp only [oneCell] at oP5
  simp only [vcells] at vP5
  simp only [List.set] at ch5 fb5
  simp (disch := first | omega | (simp only [newRow_size, Array.size_setIfInBounds, Array.size_push]; done) | (simp only [newRow_size, Array.size_setIfInBounds, Array.size_push]; omega)) [hkb5, oP5, vP5, eqT, eqF, neT, neF, ltT, ltF, leT, leF, nltT, nltF, nleT, nleF, nneT, nneF, List.getElem?_cons_zero, List.getElem?_cons_succ, hkb5s]
  generalize g5.setIfInBounds kb (.cells [.slice (some ⟨ba, 0, none⟩) items.length items.length, .slice (some ⟨ba, 0, none⟩) items.length items.length, C3, P5, T1, N2, .int .i64 m] 0 true []) = g6 at ch5 fb5 ⊢
  have y5 := ch5.1
  -- the item stamped
  have is6 := isTr (isTr rs2.is ch3 (by simp) (by intro kd i' m' _ h e; rcases e with e | e <;> injection e; omega) ag3) ch5 (by simp) (by intro kd i' m' _ h e; rcases e with e | e <;> injection e; omega) ag5
  obtain ⟨b', cs', an', h7, e1', q2, q3, q4, q5, q6, q7, q8, q9⟩ := is6.put (zip_at hx) (o := 0) (new := [.int .i64 m]) (by simp) rfl
  rw [Nat.add_zero] at q6
  injection e1' with e1' _ _
  injection e1' with e1'
  injection e1' with e1' _ _
  subst e1'
  simp (disch := first | omega | (simp only [newRow_size, Array.size_setIfInBounds, Array.size_push]; done) | (simp only [newRow_size, Array.size_setIfInBounds, Array.size_push]; omega)) [r65_31, hi, eqT, eqF, neT, neF, ltT, ltF, leT, leF, nltT, nltF, nleT, nleF, nneT, nneF, List.getElem?_cons_zero, List.getElem?_cons_succ, -wr, q6]
  have C7 : Ch κ5 (· = .ans j 0 0 0) g6 h7 := ⟨by omega, fun c hc hn => q8.2 c hc hn⟩
  have hset : items.zipIdx.set i (x, i) = items.zipIdx := by
    apply List.ext_getElem?
    intro n
    by_cases hn : n = i
    · subst hn; rw [List.getElem?_set_self (by simpa using hi), zip_at hx]
    · rw [List.getElem?_set_ne (fun e => hn e.symm)]
  have is7 := q9 (R2 := ItL κ5 j (i + 1) m) (x, i) (fun cs n z hz hn q => by
    obtain ⟨_, hzn⟩ := zip_inv hz
    unfold ItS at q
    unfold ItL
    by_cases h1 : z.2 < i
    · rw [if_pos h1] at q; rw [if_pos (by omega)]; exact q
    · rw [if_neg h1, if_neg (by omega)] at q
      rw [if_neg (by omega)]
      exact q.tr C7 (by intro kd m' _ e; injection e with _ e; omega) (Agr.refl _ _)) (by
    unfold ItS at q5
    unfold ItL
    rw [if_neg (Nat.lt_irrefl _), if_pos rfl] at q5
    rw [if_pos (by omega)]
    obtain ⟨b1, b2, b3, e⟩ := q5
    rw [e]
    exact ⟨b2, b3, vI, wI, rfl⟩)
  rw [hset] at is7
  have ne0 : ∀ {kd : Nat} {es : List (Ent × Nat)}, Kinds j kd es → 0 < kd → ∀ y ∈ es, ¬ y.1.col = .ans j 0 0 0 := by
    intro kd es h hk y hy e
    obtain ⟨_, _, q⟩ := h y hy
    rw [q] at e; injection e with _ e; omega
  have k5 : Kinds j 2 (eP ++ [(⟨.ans j 2 i 0, x.prts.length, ownM m i 9999⟩, 0)]) := fun y hy => by
    rcases List.mem_append.1 hy with hy | hy
    · exact pa2.kP y hy
    · rw [List.mem_singleton.1 hy]; exact ⟨_, _, rfl⟩
  have fb7 := fb5.tr C7 (Agr.refl _ _) (by simp) (by intro kd h e; injection e with _ e; omega) (ne0 k3 (by omega)) (ne0 k5 (by omega)) (ne0 pa2.kT (by omega)) (ne0 pa2.kN (by omega))
  refine hkn h7 κ5 C3 P5 T1 N2 _ fb7 is7 ?_ ((ag1.trans ag2 (by omega)).trans (ag3.trans ag5 (by omega)) (by omega)) ?_
  · refine ⟨fun y hy => ?_, fun y hy => ?_, fun y hy => ?_, fun y hy => ?_⟩
    · rcases List.mem_append.1 hy with hy | hy
      · obtain ⟨i', h, q⟩ := pa2.C y hy; exact ⟨i', by omega, q⟩
      · rw [List.mem_singleton.1 hy]; exact ⟨i, by omega, rfl⟩
    · rcases List.mem_append.1 hy with hy | hy
      · obtain ⟨i', h, q⟩ := pa2.P y hy; exact ⟨i', by omega, q⟩
      · rw [List.mem_singleton.1 hy]; exact ⟨i, by omega, rfl⟩
    · obtain ⟨i', k', h, q⟩ := pa2.T y hy; exact ⟨i', k', by omega, q⟩
    · obtain ⟨i', k', h, q⟩ := pa2.N y hy; exact ⟨i', k', by omega, q⟩
  · have c3 : Ch κ2 (own j) g2 g4 := ch3.weak (fun c h => by rcases h with h | h; exact .inr ⟨_, _, _, h⟩; exact .inl h)
    have c5 : Ch κ3 (own j) g4 g6 := ch5.weak (fun c h => by rcases h with h | h; exact .inr ⟨_, _, _, h⟩; exact .inl h)
    have c7 : Ch κ5 (own j) g6 h7 := C7.weak (fun c h => .inr ⟨_, _, _, h⟩)
    exact (ch1.trans (ch2.trans (c3.trans (c5.trans c7 ag5) ag3) ag2) ag1)

end Go.Proofs.Ytkkagpchcefidaa

/- QueueOwn: full, the whole. -/
set_option linter.unusedSimpArgs false
set_option linter.unusedVariables false
namespace Go.Proofs.Ytkkagpchcefidaa
open Go.Ev

/-- The four families of lists behind full. -/
structure Fams (κ : Kp) (j : Nat) (g : H) (C P T N : Value) (eC eP eT eN : List (Ent × Nat)) : Prop where
  bC : BldA (fun c => κ c = .ans j 7 0 0) 3 (EntC κ 5 R1c R2c) g C eC
  bP : BldA (fun c => κ c = .ans j 8 0 0) 3 (EntC κ 5 R1p R2p) g P eP
  bT : BldA (fun c => κ c = .ans j 5 0 0) 3 (EntC κ 1 R1t R2t) g T eT
  bN : BldA (fun c => κ c = .ans j 6 0 0) 3 (EntC κ 3 R1n R2n) g N eN

def FullP (κ : Kp) (j m : Nat) (items : List Itm) (v0 : Value) (g : H) (u : Value) (h' : H) : Prop :=
  ∃ κ' C P T N, u = .agg ⟨[v0, v0, C, P, T, N, .int .i64 m]⟩ ∧ Agr g.size κ κ' ∧ Ch κ (own j) g h' ∧ BldA (fun c => κ' c = .ans j 0 0 0) 5 PrC h' v0 (List.replicate items.length (R1i m)) ∧
    Fams κ' j h' C P T N (fC j m items) (fP j m items) (fTs j m items.zipIdx) (fNs j m items.zipIdx) ∧ oneCell C = true ∧ oneCell P = true ∧ oneCell T = true ∧ oneCell N = true

set_option maxHeartbeats 4000000 in
theorem full_spec {F : Nat} (hF : 1000 ≤ F) {κ : Kp} {j m : Nat} {g : H} {v0 : Value} {items : List Itm} (hm : m ≤ 1000) (few : FewI items) (s : BldA (fun c => κ c = .ans j 0 0 0) 5 (ItmO κ j) g v0 items.zipIdx) :
    Ans (cf F 65 [v0, .int .i64 m] g) (FullP κ j m items v0 g) := by
  generalize hQ : FullP κ j m items v0 g = Q
  obtain ⟨F, rfl⟩ : ∃ G, F = G + 1 := ⟨F - 1, by omega⟩
  rw [cf_step (a := a65) rfl rfl (by simp [a65])]
  have o0 := s.sl.one
  have w0 := s.sl.vc
  have l0 := s.sl.len
  simp only [List.length_zipIdx] at l0
  simp only [oneCell] at o0
  simp only [vcells] at w0
  simp (disch := first | omega | (simp only [newRow_size, Array.size_setIfInBounds, Array.size_push]; done) | (simp only [newRow_size, Array.size_setIfInBounds, Array.size_push]; omega)) [a65, r65_0, r65_1, r65_2, o0, w0]
  -- the two blocks of its own
  have hs4 : ∀ z : List Value, hget (Ev.newRow (Ev.newRow g z 0 []) [v0, v0, .slice none 0 0, .slice none 0 0, .slice none 0 0, .slice none 0 0, .int .i64 m] 0 []) g.size = some (.cells z 0 true []) := fun z => by simp
  have hs5 : ∀ z : List Value, hget (Ev.newRow (Ev.newRow g z 0 []) [v0, v0, .slice none 0 0, .slice none 0 0, .slice none 0 0, .slice none 0 0, .int .i64 m] 0 []) (g.size + 1) = some (.cells [v0, v0, .slice none 0 0, .slice none 0 0, .slice none 0 0, .slice none 0 0, .int .i64 m] 0 true []) := fun z => by simp
  have hk : ∀ z : List Value, Kept g (Ev.newRow (Ev.newRow g z 0 []) [v0, v0, .slice none 0 0, .slice none 0 0, .slice none 0 0, .slice none 0 0, .int .i64 m] 0 []) [] := fun z => (rowKept g z 0 []).trans (rowKept _ _ _ _)
  have hz : ∀ z : List Value, (Ev.newRow (Ev.newRow g z 0 []) [v0, v0, .slice none 0 0, .slice none 0 0, .slice none 0 0, .slice none 0 0, .int .i64 m] 0 []).size = g.size + 2 := fun z => by simp
  obtain ⟨z4, hz4, hz4l⟩ : ∃ z4 : List Value, z4 = [.slice none 0 0, .slice none 0 0, .slice none 0 0, .slice none 0 0, .slice none 0 0, .slice none 0 0, .int .i64 0] ∧ z4.length = 7 := ⟨_, rfl, rfl⟩
  rw [← hz4]
  have hs4 := hs4 z4
  have hs5 := hs5 z4
  have hk := hk z4
  have hz := hz z4
  generalize Ev.newRow (Ev.newRow g z4 0 []) [v0, v0, .slice none 0 0, .slice none 0 0, .slice none 0 0, .slice none 0 0, .int .i64 m] 0 [] = g0 at hs4 hs5 hk hz ⊢
  have a0 : Agr g.size κ (ext (ext κ g.size .old) (g.size + 1) (.bk 1)) := (Agr.ext (t := .old) (Nat.le_refl _)).trans (Agr.ext (Nat.le_refl (g.size + 1))) (by omega)
  have c4 : ext (ext κ g.size .old) (g.size + 1) (.bk 1) g.size = .old := by rw [ext_lt (by omega), ext_ge (Nat.le_refl _)]
  have c5 : ext (ext κ g.size .old) (g.size + 1) (.bk 1) (g.size + 1) = .bk 1 := ext_ge (Nat.le_refl _)
  generalize ext (ext κ g.size .old) (g.size + 1) (.bk 1) = κ0 at a0 c4 c5
  have s0 : BldA (fun c => κ0 c = .ans j 0 0 0) 5 (ItL κ0 j 0 m) g0 v0 items.zipIdx := s.tr (Ch.of (S := no) hk) (by simp [no]) a0 (fun cs n y hy q => by
    unfold ItL
    rw [if_neg (by omega)]
    exact q.tr (Ch.of (S := no) hk) (by simp [no]) a0)
  have few' := few
  obtain ⟨few1, few2⟩ := few
  refine loop_rule (fun mm e g' => ∃ (i : Nat) (κ' : Kp) (C P T N : Value) (eC eP eT eN : List (Ent × Nat)), mm = items.length - i ∧ i ≤ items.length ∧ e = [(0, v0), (1, .int .i64 m), (4, .pointer (some ⟨g.size, 0, none⟩)), (5, .pointer (some ⟨g.size + 1, 0, none⟩)), (6, .int .i64 i)] ∧
      eC = (fC j m items).take i ∧ eP = (fP j m items).take i ∧ eT = fTs j m (items.zipIdx.take i) ∧ eN = fNs j m (items.zipIdx.take i) ∧
      FB κ' j g' (g.size + 1) v0 v0 C P T N m eC eP eT eN ∧ BldA (fun c => κ' c = .ans j 0 0 0) 5 (ItL κ' j i m) g' v0 items.zipIdx ∧ Past j i 0 0 eC eP eT eN ∧ Agr g0.size κ0 κ' ∧ Ch κ0 (own j) g0 g') ?_ _ items.length _ _ (by omega)
    ⟨0, κ0, _, _, _, _, [], [], [], [], by omega, by omega, rfl, by simp, by simp, by simp [fTs], by simp [fNs], ⟨hs5, c5, BldA.nil, BldA.nil, BldA.nil, BldA.nil⟩, s0, ⟨by simp, by simp, by simp, by simp⟩, Agr.refl _ _, Ch.refl _ _ _⟩
  rintro mm e g' again ⟨i, κ', C, P, T, N, eC, eP, eT, eN, rfl, hi, rfl, hC, hP, hT, hN, fb, is, pa, ag, ch⟩ ih
  have hw : IntKind.i64.wrap ((i : Int) + 1) = ((i + 1 : Nat) : Int) := by rw [IntKind.wrap_i64]; omega
  by_cases hlt : i < items.length
  · obtain ⟨x, hx⟩ : ∃ x, items[i]? = some x := ⟨_, List.getElem?_eq_getElem hlt⟩
    have hic : (i : Int) < (items.length : Int) := by omega
    have lC : eC.length ≤ 10000 := by rw [hC, List.length_take]; omega
    have lP : eP.length ≤ 10000 := by rw [hP, List.length_take]; omega
    have lT : eT.length ≤ 10000 := by
      have := flat_len (fun y : Itm × Nat => fT j y.2 m y.1.chgs) 24 (items.zipIdx.take i) (fun y hy => by
        rw [fT_len]
        exact (few2 y.1 (by
          have := List.mem_of_mem_take hy
          obtain ⟨n, hn⟩ := List.getElem?_of_mem this
          exact List.mem_of_getElem? (zip_inv hn).1)).1)
      rw [hT]
      have h2 : (items.zipIdx.take i).length ≤ 32 := by rw [List.length_take, List.length_zipIdx]; omega
      unfold fTs
      omega
    have lN : eN.length ≤ 10000 := by
      have := flat_len (fun y : Itm × Nat => fN j y.2 m y.1.prts) 24 (items.zipIdx.take i) (fun y hy => by
        rw [fN_len]
        exact (few2 y.1 (by
          have := List.mem_of_mem_take hy
          obtain ⟨n, hn⟩ := List.getElem?_of_mem this
          exact List.mem_of_getElem? (zip_inv hn).1)).2.2.1)
      rw [hN]
      have h2 : (items.zipIdx.take i).length ≤ 32 := by rw [List.length_take, List.length_zipIdx]; omega
      unfold fNs
      omega
    simp (disch := first | omega | (simp only [newRow_size, Array.size_setIfInBounds, Array.size_push]; done) | (simp only [newRow_size, Array.size_setIfInBounds, Array.size_push]; omega)) [l65_33_cut, r65_3, l0, hic, eqT, eqF, neT, neF, ltT, ltF, leT, leF, nltT, nltF, nleT, nleF, nneT, nneF, List.getElem?_cons_zero, List.getElem?_cons_succ]
    refine itBody_spec (F := F) (by omega) hx hm few' lC lP lT lN fb is pa ?_
    intro g2 κ2 C2 P2 T2 N2 e2 fb2 is2 pa2 ag2 ch2
    simp (disch := first | omega | (simp only [newRow_size, Array.size_setIfInBounds, Array.size_push]; done) | (simp only [newRow_size, Array.size_setIfInBounds, Array.size_push]; omega)) [r65_32, hw]
    have y1 := ch.1
    refine ih (items.length - (i + 1)) _ _ (by omega) ⟨i + 1, κ2, C2, P2, T2, N2, _, _, _, _, rfl, by omega, rfl, ?_, ?_, ?_, ?_, fb2, is2, pa2, ag.trans ag2 (by omega), ch.trans ch2 ag⟩
    · rw [hC]; exact (take_snoc (by unfold fC; rw [List.getElem?_map, zip_at hx]; rfl)).symm
    · rw [hP]; exact (take_snoc (by unfold fP; rw [List.getElem?_map, zip_at hx]; rfl)).symm
    · rw [hT, take_snoc (zip_at hx)]; simp [fTs]
    · rw [hN, take_snoc (zip_at hx)]; simp [fNs]
  · have hii : i = items.length := by omega
    subst hii
    have hic : ¬ (items.length : Int) < (items.length : Int) := by omega
    have h5 := fb.kbc
    have h4 := ch.get hs4 (by rw [c4]; simp [own])
    have h5s := lt_of_get h5
    have h4s := lt_of_get h4
    have oC := fb.bC.sl.one
    have oP := fb.bP.sl.one
    have oT := fb.bT.sl.one
    have oN := fb.bN.sl.one
    have hoC := oC
    have hoP := oP
    have hoT := oT
    have hoN := oN
    simp only [oneCell] at oC oP oT oN
    simp (disch := first | omega | (simp only [newRow_size, Array.size_setIfInBounds, Array.size_push]; done) | (simp only [newRow_size, Array.size_setIfInBounds, Array.size_push]; omega)) [l65_33_cut, r65_3, l0, hic, eqT, eqF, neT, neF, ltT, ltF, leT, leF, nltT, nltF, nleT, nleF, nneT, nneF, List.getElem?_cons_zero, List.getElem?_cons_succ, r65_34, h5, h4, hz4l, o0, oC, oP, oT, oN, h5s, h4s]
    have y1 := ch.1
    have cS0 : ∀ c, c ≠ g.size → hget (Array.setIfInBounds g' g.size (.cells (v0 :: v0 :: C :: P :: T :: N :: .int .i64 m :: List.drop 7 z4) 0 true [])) c = hget g' c := fun c hc => set_other (fun e => hc e.symm)
    have cS : Ch κ' (· = .old) g' (Array.setIfInBounds g' g.size (.cells (v0 :: v0 :: C :: P :: T :: N :: .int .i64 m :: List.drop 7 z4) 0 true [])) := ⟨by simp, fun c hc hn => set_other (fun e => hn (by rw [← e]; show κ' g.size = .old; rw [ag _ (by omega)]; exact c4))⟩
    have zS : (Array.setIfInBounds g' g.size (.cells (v0 :: v0 :: C :: P :: T :: N :: .int .i64 m :: List.drop 7 z4) 0 true [])).size = g'.size := by simp
    generalize Array.setIfInBounds g' g.size (.cells (v0 :: v0 :: C :: P :: T :: N :: .int .i64 m :: List.drop 7 z4) 0 true []) = gF at cS zS cS0 ⊢
    have nk : ∀ {kd : Nat} {es : List (Ent × Nat)}, Kinds j kd es → ∀ y ∈ es, ¬ y.1.col = .old := by
      intro kd es h y hy e
      obtain ⟨_, _, q⟩ := h y hy
      rw [q] at e; cases e
    rw [List.take_of_length_le (by simp [fC])] at hC
    rw [List.take_of_length_le (by simp [fP])] at hP
    rw [List.take_of_length_le (by simp)] at hT hN
    subst hC hP hT hN
    subst hQ
    refine Ans.of ⟨κ', C, P, T, N, rfl, a0.trans ag (by omega), ⟨by omega, fun c hc hn => ?_⟩, ?_, ⟨fb.bC.ents cS (by simp) (nk pa.kC) (Agr.refl _ _), fb.bP.ents cS (by simp) (nk pa.kP) (Agr.refl _ _), fb.bT.ents cS (by simp) (nk pa.kT) (Agr.refl _ _), fb.bN.ents cS (by simp) (nk pa.kN) (Agr.refl _ _)⟩, hoC, hoP, hoT, hoN⟩
    · have h1 : κ' c = κ c := (ag c (by omega)).trans (a0 c hc)
      have h2 : κ0 c = κ c := a0 c hc
      rw [cS0 c (by omega), ch.2 c (by omega) (by rw [h2]; exact hn), hk.get hc (by simp)]
    · have := is.to (ys := List.replicate items.length (R1i m)) (R' := PrC) (h' := g') (Nat.le_refl _) (by simp) (fun _ _ q => q) (fun _ _ e _ => e) (fun cs n y z hy hz q => by
        obtain ⟨hy1, hy2⟩ := zip_inv hy
        have := (List.getElem?_eq_some_iff.1 hy1).1
        rw [List.getElem?_replicate, if_pos (by omega)] at hz
        cases hz
        unfold ItL at q
        rw [if_pos (by omega)] at q
        exact q)
      exact this.tr cS (by simp) (Agr.refl _ _) (fun _ _ _ _ q => q)

end Go.Proofs.Ytkkagpchcefidaa

/- QueueOwn: one list of the book gone on from. -/
set_option linter.unusedSimpArgs false
set_option linter.unusedVariables false
namespace Go.Proofs.Ytkkagpchcefidaa
open Go.Ev

/-- What one element more behind an entry's list leaves, once the list stands in the book again. -/
def Grown (κ : Kp) (col : Col) (w : Nat) (R1 : Int → List Value → Prop) (R2 : Int → Nat → List Value → Prop) (g : H) (V : Value) (es : List (Ent × Nat)) (i : Nat) (e : Ent) (c b : Nat) (cs : List Value) (tv' : Value) (g1 : H) : Prop :=
  oneCell tv' = true ∧ vcells tv' = some [tv'] ∧ ∃ an g2 κ', hget g1 b = some (.cells cs 3 true an) ∧ wr g1 b (i * 3) [tv'] = some g2 ∧ g2.size = g1.size ∧ g.size ≤ g1.size ∧ Agr g.size κ κ' ∧ Ch κ (fun d => d = col ∨ d = e.col) g g2 ∧ Ch κ (· = e.col) g g1 ∧
    BldA (fun d => κ' d = col) 3 (EntC κ' w R1 R2) g2 V (es.set i (e, c + 1))

theorem ent_grow {κ : Kp} {col : Col} {w : Nat} {R1 : Int → List Value → Prop} {R2 : Int → Nat → List Value → Prop} {g : H} {V : Value} {es : List (Ent × Nat)} (s : BldA (fun c => κ c = col) 3 (EntC κ w R1 R2) g V es) {i : Nat} {e : Ent} {c : Nat} (he : es[i]? = some (e, c))
    {new : List Value} (hnew : R2 e.mr c new) (hw : new.length = w) {bytes : Nat} (hb : (e.n + c + 1) * bytes ≤ 2 ^ 47) (hE : ∀ x ∈ es, x.1.col ≠ col) (nd : ∀ (k : Nat) x, es[k]? = some x → k ≠ i → x.1.col ≠ e.col) :
    ∃ b cs an tv, V = .slice (some ⟨b, 0, none⟩) es.length es.length ∧ κ b = col ∧ hget g b = some (.cells cs 3 true an) ∧ i * 3 + 3 ≤ cs.length ∧ (cs.drop (i * 3)).take 1 = [tv] ∧ (cs.drop (i * 3 + 2)).take 1 = [.int .i64 e.mr] ∧ oneCell tv = true ∧ vcells tv = some [tv] ∧ Ev.sameV tv tv = true ∧
      Ans (appendTo (Ev.newRow g new w []) w bytes tv 1 new) (Grown κ col w R1 R2 g V es i e c b cs) := by
  obtain ⟨b, cs, an, e1, hk, hg, hl, tv, hrow, bt⟩ := s.row he
  obtain ⟨r0, _, r2⟩ := get3 hrow
  have hne : e.col ≠ col := hE _ (List.mem_of_getElem? he)
  refine ⟨b, cs, an, tv, e1, hk, hg, hl, r0, r2, bt.sl.one, bt.sl.vc, SlR.sameV bt.sl, ?_⟩
  have a : Agr g.size κ (ext κ g.size e.col) := Agr.ext (Nat.le_refl _)
  refine (bt.app (R2 := PrC) (bytes := bytes) (R2 e.mr c) hw (by simp; omega) (fun _ _ _ _ _ _ q => q) (fun _ _ => hnew)).mono ?_
  rintro tv' g1 ⟨b1, c1, _⟩
  generalize ext κ g.size e.col = κ1 at a b1
  have hg1 := c1.get hg (by rw [hk]; exact fun q => hne q.symm)
  have s1 : BldA (fun d => κ1 d = col) 3 (fun g' cs x => x.1.col ≠ e.col → EntC κ1 w R1 R2 g' cs x) g1 V es := s.tr c1 (fun q => hne q.symm) a (fun cs n x hx q h => q.tr c1 h a)
  obtain ⟨b', cs', an', g2, e1', q2, q3, q4, q5, q6, q7, q8, q9⟩ := s1.put he (o := 0) (new := [tv']) (by simp) (by simpa using b1.sl.one)
  rw [Nat.add_zero] at q6
  rw [e1] at e1'
  injection e1' with e1' _ _
  injection e1' with e1'
  injection e1' with e1' _ _
  subst e1'
  rw [hg1] at q2
  injection q2 with q2
  injection q2 with q2 _ _ q2'
  subst q2 q2'
  have c2 : Ch κ1 (· = col) g1 g2 := ⟨by omega, fun d hd hn => q8.2 d hd hn⟩
  refine ⟨b1.sl.one, b1.sl.vc, an, g2, κ1, hg1, q6, q7, c1.1, a, (c1.weak (fun _ h => .inr h)).trans (c2.weak (fun _ h => .inl h)) a, c1, ?_⟩
  refine q9 (e, c + 1) (fun cs n x hx hn q => ?_) ?_
  · exact (q (nd n x hx hn)).tr c2 (hE x (List.mem_of_getElem? hx)) (Agr.refl _ _)
  · refine ⟨tv', ?_, ?_⟩
    · rw [hrow]; rfl
    · have := b1.tr (κ' := κ1) (R2 := PrC) c2 hne (Agr.refl _ _) (fun _ _ _ _ q => q)
      rw [List.range_succ, List.map_append, ← List.append_assoc]
      exact this

end Go.Proofs.Ytkkagpchcefidaa

/- QueueOwn: the lists of tags and of nodes gone on from, one round. -/
set_option linter.unusedSimpArgs false
set_option linter.unusedVariables false
namespace Go.Proofs.Ytkkagpchcefidaa
open Go.Ev

/-- Entries with how many were put behind each. -/
def mc (base : List Ent) (cnt : Nat → Nat) : List (Ent × Nat) := base.zipIdx.map fun x => (x.1, cnt x.2)
theorem mc_len (base : List Ent) (cnt : Nat → Nat) : (mc base cnt).length = base.length := by simp [mc]
theorem mc_get {base : List Ent} {cnt : Nat → Nat} {i : Nat} {e : Ent} (h : base[i]? = some e) : (mc base cnt)[i]? = some (e, cnt i) := by
  unfold mc; rw [List.getElem?_map, zip_at h]; rfl
theorem mc_inv {base : List Ent} {cnt : Nat → Nat} {i : Nat} {x : Ent × Nat} (h : (mc base cnt)[i]? = some x) : base[i]? = some x.1 ∧ x.2 = cnt i := by
  unfold mc at h
  rw [List.getElem?_map] at h
  obtain ⟨y, hy, rfl⟩ := Option.map_eq_some_iff.1 h
  obtain ⟨h1, h2⟩ := zip_inv hy
  exact ⟨h1, by simp [h2]⟩
theorem mc_mem {base : List Ent} {cnt : Nat → Nat} {x : Ent × Nat} (h : x ∈ mc base cnt) : x.1 ∈ base := by
  obtain ⟨i, hi⟩ := List.getElem?_of_mem h
  exact List.mem_of_getElem? (mc_inv hi).1
theorem mc_congr {base : List Ent} {cnt cnt' : Nat → Nat} (h : ∀ i, i < base.length → cnt i = cnt' i) : mc base cnt = mc base cnt' := by
  apply List.ext_getElem?
  intro n
  unfold mc
  rw [List.getElem?_map, List.getElem?_map, List.getElem?_zipIdx]
  by_cases hn : n < base.length
  · rw [List.getElem?_eq_getElem hn]; simp [h n hn]
  · rw [List.getElem?_eq_none (by omega)]; rfl
theorem mc_set {base : List Ent} {cnt : Nat → Nat} {i : Nat} {e : Ent} (h : base[i]? = some e) (c : Nat) : (mc base cnt).set i (e, c) = mc base (fun f => if f = i then c else cnt f) := by
  apply List.ext_getElem?
  intro n
  have hi := (List.getElem?_eq_some_iff.1 h).1
  by_cases hn : n = i
  · subst hn
    rw [List.getElem?_set_self (by rw [mc_len]; exact hi), mc_get h, if_pos rfl]
  · rw [List.getElem?_set_ne (fun q => hn q.symm)]
    unfold mc
    rw [List.getElem?_map, List.getElem?_map, List.getElem?_zipIdx]
    cases base[n]? with
    | none => rfl
    | some x => simp [hn]

/-- A family of lists: their rows apart, of this kind, their marks and lengths small. -/
structure Base (j kd : Nat) (base : List Ent) : Prop where
  len : base.length ≤ 10000
  kind : ∀ e ∈ base, ∃ i k, e.col = .ans j kd i k
  nd : ∀ (i k : Nat) a b, base[i]? = some a → base[k]? = some b → i ≠ k → a.col ≠ b.col
  mr : ∀ e ∈ base, 0 ≤ e.mr ∧ e.mr ≤ 2000000000 ∧ e.n ≤ 24

theorem Base.kinds {j kd : Nat} {base : List Ent} (s : Base j kd base) (cnt : Nat → Nat) : Kinds j kd (mc base cnt) := fun x hx => s.kind _ (mc_mem hx)

/-- How often a list has been gone on from behind q rounds. -/
def gq (q f : Nat) : Nat := if f < 64 then q else min q 2
theorem gq_le (q f : Nat) : gq q f ≤ q := by unfold gq; split <;> omega
theorem gq_succ (q f : Nat) (h : q < 2 ∨ f < 64) : gq q f = q ∧ gq (q + 1) f = q + 1 := by unfold gq; split <;> omega
theorem gq_stop (q f : Nat) (h : ¬ (q < 2 ∨ f < 64)) : gq (q + 1) f = gq q f := by unfold gq; split <;> omega

/-- The colours of one family. -/
def famS (j kd kr : Nat) : Col → Prop := fun c => c = .ans j kd 0 0 ∨ ∃ i k, c = .ans j kr i k

def tgBody : ACode := (.block 5 (.regionD d55_13 [(1, [20])] [1, 4, 5, 6, 8]))
theorem l55_15_cut : l55_15 = (.seq (.seq (.region r55_12 [1, 4, 5, 6, 8, 99]) (.cond (.tmp 99) .skip (.exit 4))) (.seq tgBody (.region r55_14 [1, 4, 5, 6, 8]))) := rfl
def tgGrow : ACode := (.seq (.region r55_11 [1, 4, 5, 6, 8]) (.block 4 (.loop [1, 4, 5, 6, 8] l55_15)))

set_option maxHeartbeats 2000000 in
theorem tgBody_spec {F : Nat} (hF : 100 ≤ F) {κ : Kp} {j : Nat} {g : H} {kb : Nat} {L G C P T N v4 : Value} {m : Int} {eC eP eN : List (Ent × Nat)} {bT : List Ent} {cnt : Nat → Nat} (fb : FB κ j g kb L G C P T N m eC eP (mc bT cnt) eN) (hb : Base j 3 bT)
    (kC : Kinds j 1 eC) (kP : Kinds j 2 eP) (kN : Kinds j 4 eN) {i q : Nat} (hi : i < bT.length) (hc : cnt i ≤ 100) {w99 : Value}
    {kn kr : K} {ke : Nat → K} {Q : Value → H → Prop}
    (hkn : ∀ g' κ', FB κ' j g' kb L G C P T N m eC eP (mc bT (fun f => if f = i then cnt i + 1 else cnt f)) eN → Agr g.size κ κ' → Ch κ (famS j 5 3) g g' →
      Ans (kn [(1, .int .i64 m), (4, v4), (5, .pointer (some ⟨kb, 0, none⟩)), (6, .int .i64 q), (8, .int .i64 i)] g' []) Q) :
    Ans (evC F (cf F) tgBody kn ke kr [(1, .int .i64 m), (4, v4), (5, .pointer (some ⟨kb, 0, none⟩)), (6, .int .i64 q), (8, .int .i64 i), (99, w99)] g []) Q := by
  obtain ⟨e, he⟩ : ∃ e, bT[i]? = some e := ⟨_, List.getElem?_eq_getElem hi⟩
  obtain ⟨hm1, hm2, hm3⟩ := hb.mr e (List.mem_of_getElem? he)
  obtain ⟨ei, ek, hcol⟩ := hb.kind e (List.mem_of_getElem? he)
  have hE : ∀ x ∈ mc bT cnt, x.1.col ≠ .ans j 5 0 0 := fun x hx h => by
    obtain ⟨_, _, h'⟩ := hb.kind _ (mc_mem hx)
    rw [h'] at h; injection h with _ h; omega
  obtain ⟨b, cs, an, tv, eT, hk, hg, hl, r0, r2, ot, vt, st, ap⟩ := ent_grow fb.bT (mc_get he) (new := [.int .i64 (-e.mr)]) rfl rfl (bytes := 8) (by omega) hE (fun k x hx hne => by
    obtain ⟨h1, _⟩ := mc_inv hx
    exact hb.nd k i _ _ h1 he hne)
  rw [mc_len] at eT
  have hkb := fb.kbc
  have hkbs := lt_of_get hkb
  have hneg : IntKind.i64.wrap (0 - e.mr) = -e.mr := by rw [IntKind.wrap_i64]; omega
  have hneg' : IntKind.i64.wrap (-e.mr) = -e.mr := by rw [IntKind.wrap_i64]; omega
  subst eT
  simp only [oneCell] at ot
  have hgs := lt_of_get hg
  simp (disch := first | omega | (simp only [newRow_size, Array.size_setIfInBounds, Array.size_push]; done) | (simp only [newRow_size, Array.size_setIfInBounds, Array.size_push]; omega)) [tgBody, d55_13, hkb, hg, hl, r0, r2, hi, eqT, eqF, neT, neF, ltT, ltF, leT, leF, nltT, nltF, nleT, nleF, nneT, nneF, List.getElem?_cons_zero, List.getElem?_cons_succ, hneg, hneg', srcOf]
  refine Ans.nextD ap ?_
  rintro tv' g1 ⟨ot', vt', an', g2, κ', hg1, hwr, z2, z1, ag, ch, ch1, bT'⟩
  have hg1s := lt_of_get hg1
  simp only [oneCell] at ot'
  simp only [vcells] at vt'
  have hkb1 := ch1.get hkb (by rw [fb.kbk, hcol]; simp)
  have sV : Ev.sameV (.slice (some ⟨b, 0, none⟩) bT.length bT.length) (.slice (some ⟨b, 0, none⟩) bT.length bT.length) = true := by simp [Ev.sameV, sameCell]
  simp (disch := first | omega | (simp only [newRow_size, Array.size_setIfInBounds, Array.size_push]; done) | (simp only [newRow_size, Array.size_setIfInBounds, Array.size_push]; omega)) [hg1, hi, eqT, eqF, neT, neF, ltT, ltF, leT, leF, nltT, nltF, nleT, nleF, nneT, nneF, List.getElem?_cons_zero, List.getElem?_cons_succ, -wr, hwr, vt', ot', dk_go, chks_nil, chks_cons, chkA_nil, chkA_cons, chk1_no, chk1_yes, chkV_some, hAt_eq, hOf_some, hOf_none, hkb, hkb1, sV, mc_len]
  refine hkn g2 κ' ⟨?_, ?_, ?_, ?_, ?_, ?_⟩ ag (ch.weak (fun c h => by rcases h with h | h; exact .inl h; exact .inr ⟨ei, ek, by rw [h, hcol]⟩))
  · exact ch.get hkb (by rw [fb.kbk, hcol]; simp)
  · exact (ag kb hkbs).trans fb.kbk
  · exact fb.bC.ents ch (by rw [hcol]; simp) (fun x hx h => by obtain ⟨_, _, h'⟩ := kC x hx; rw [h', hcol] at h; rcases h with h | h <;> injection h <;> omega) ag
  · exact fb.bP.ents ch (by rw [hcol]; simp) (fun x hx h => by obtain ⟨_, _, h'⟩ := kP x hx; rw [h', hcol] at h; rcases h with h | h <;> injection h <;> omega) ag
  · rw [mc_set he] at bT'; exact bT'
  · exact fb.bN.ents ch (by rw [hcol]; simp) (fun x hx h => by obtain ⟨_, _, h'⟩ := kN x hx; rw [h', hcol] at h; rcases h with h | h <;> injection h <;> omega) ag

set_option maxHeartbeats 2000000 in
theorem tgGrow_spec {F : Nat} (hF : 20000 ≤ F) {κ : Kp} {j : Nat} {g : H} {kb : Nat} {L G C P T N v4 : Value} {m : Int} {eC eP eN : List (Ent × Nat)} {bT : List Ent} {q : Nat} (fb : FB κ j g kb L G C P T N m eC eP (mc bT (gq q)) eN) (hb : Base j 3 bT)
    (kC : Kinds j 1 eC) (kP : Kinds j 2 eP) (kN : Kinds j 4 eN) (hq : q < 64) {re : Env}
    {kn kr : K} {ke : Nat → K} {Q : Value → H → Prop}
    (hkn : ∀ g' κ' (e : Env), FB κ' j g' kb L G C P T N m eC eP (mc bT (gq (q + 1))) eN → Agr g.size κ κ' → Ch κ (famS j 5 3) g g' →
      Ans (kn ((1, .int .i64 m) :: (4, v4) :: (5, .pointer (some ⟨kb, 0, none⟩)) :: (6, .int .i64 q) :: e) g' []) Q) :
    Ans (evC F (cf F) tgGrow kn ke kr ((1, .int .i64 m) :: (4, v4) :: (5, .pointer (some ⟨kb, 0, none⟩)) :: (6, .int .i64 q) :: re) g []) Q := by
  have hlen := hb.len
  simp (disch := first | omega | (simp only [newRow_size, Array.size_setIfInBounds, Array.size_push]; done) | (simp only [newRow_size, Array.size_setIfInBounds, Array.size_push]; omega)) [tgGrow, r55_11]
  refine loop_rule (fun mm e g' => ∃ (i : Nat) (κ' : Kp), mm = bT.length - i ∧ i ≤ bT.length ∧ e = [(1, .int .i64 m), (4, v4), (5, .pointer (some ⟨kb, 0, none⟩)), (6, .int .i64 q), (8, .int .i64 i)] ∧ FB κ' j g' kb L G C P T N m eC eP (mc bT (fun f => if f < i then gq (q + 1) f else gq q f)) eN ∧ Agr g.size κ κ' ∧ Ch κ (famS j 5 3) g g') ?_ _ bT.length _ _ (by omega)
    ⟨0, κ, by omega, by omega, rfl, by rw [mc_congr (cnt' := gq q) (fun f _ => by rw [if_neg (by omega)])]; exact fb, Agr.refl _ _, Ch.refl _ _ _⟩
  rintro mm e g' again ⟨i, κ', rfl, hi, rfl, fb', ag, ch⟩ ih
  have hw : IntKind.i64.wrap ((i : Int) + 1) = ((i + 1 : Nat) : Int) := by rw [IntKind.wrap_i64]; omega
  have hkb := fb'.kbc
  have hl := fb'.bT.sl.len
  rw [mc_len] at hl
  have y := ch.1
  have go : ∀ w99, i < bT.length → (q < 2 ∨ i < 64) → Ans (evC F (cf F) tgBody (fun s h ds => evC F (cf F) (.region r55_14 [1, 4, 5, 6, 8]) (keepK [1, 4, 5, 6, 8] again) (putK 4 kn ke) kr s h ds) (putK 4 kn ke) kr [(1, .int .i64 m), (4, v4), (5, .pointer (some ⟨kb, 0, none⟩)), (6, .int .i64 q), (8, .int .i64 i), (99, w99)] g' []) Q := by
    intro w99 hlt hqi
    obtain ⟨g1, g2⟩ := gq_succ q i hqi
    refine tgBody_spec (F := F) (by omega) fb' hb kC kP kN hlt (by rw [if_neg (by omega), g1]; omega) ?_
    intro g3 κ3 fb3 ag3 ch3
    simp (disch := first | omega | (simp only [newRow_size, Array.size_setIfInBounds, Array.size_push]; done) | (simp only [newRow_size, Array.size_setIfInBounds, Array.size_push]; omega)) [r55_14, hw]
    refine ih (bT.length - (i + 1)) _ _ (by omega) ⟨i + 1, κ3, rfl, by omega, rfl, ?_, ag.trans ag3 y, ch.trans ch3 ag⟩
    rw [mc_congr (cnt' := fun f => if f < i + 1 then gq (q + 1) f else gq q f) (fun f _ => by
      by_cases h : f = i
      · subst h
        rw [if_pos rfl, if_neg (Nat.lt_irrefl _), if_pos (by omega), g1, g2]
      · rw [if_neg h]
        by_cases h2 : f < i
        · rw [if_pos h2, if_pos (by omega)]
        · rw [if_neg h2, if_neg (by omega)])] at fb3
    exact fb3
  have stop : (i = bT.length ∨ ¬ (q < 2 ∨ i < 64)) → FB κ' j g' kb L G C P T N m eC eP (mc bT (gq (q + 1))) eN := by
    intro h
    rw [mc_congr (cnt' := gq (q + 1)) (fun f hf => by
      by_cases h2 : f < i
      · rw [if_pos h2]
      · rw [if_neg h2]
        rcases h with h | h
        · omega
        · exact (gq_stop q f (by omega)).symm)] at fb'
    exact fb'
  by_cases hlt : i < bT.length
  · have c1 : (i : Int) < (bT.length : Int) := by omega
    by_cases hq2 : q < 2
    · have c2 : (q : Int) < 2 := by omega
      simp (disch := first | omega | (simp only [newRow_size, Array.size_setIfInBounds, Array.size_push]; done) | (simp only [newRow_size, Array.size_setIfInBounds, Array.size_push]; omega)) [l55_15_cut, r55_12, hkb, hl, c1, c2, eqT, eqF, neT, neF, ltT, ltF, leT, leF, nltT, nltF, nleT, nleF, nneT, nneF, List.getElem?_cons_zero, List.getElem?_cons_succ]
      exact go _ hlt (.inl hq2)
    · have c2 : ¬ (q : Int) < 2 := by omega
      by_cases hi64 : i < 64
      · have c3 : (i : Int) < 64 := by omega
        simp (disch := first | omega | (simp only [newRow_size, Array.size_setIfInBounds, Array.size_push]; done) | (simp only [newRow_size, Array.size_setIfInBounds, Array.size_push]; omega)) [l55_15_cut, r55_12, hkb, hl, c1, c2, c3, eqT, eqF, neT, neF, ltT, ltF, leT, leF, nltT, nltF, nleT, nleF, nneT, nneF, List.getElem?_cons_zero, List.getElem?_cons_succ]
        exact go _ hlt (.inr hi64)
      · have c3 : ¬ (i : Int) < 64 := by omega
        simp (disch := first | omega | (simp only [newRow_size, Array.size_setIfInBounds, Array.size_push]; done) | (simp only [newRow_size, Array.size_setIfInBounds, Array.size_push]; omega)) [l55_15_cut, r55_12, hkb, hl, c1, c2, c3, eqT, eqF, neT, neF, ltT, ltF, leT, leF, nltT, nltF, nleT, nleF, nneT, nneF, List.getElem?_cons_zero, List.getElem?_cons_succ]
        exact hkn g' κ' _ (stop (.inr (by omega))) ag ch
  · have c1 : ¬ (i : Int) < (bT.length : Int) := by omega
    simp (disch := first | omega | (simp only [newRow_size, Array.size_setIfInBounds, Array.size_push]; done) | (simp only [newRow_size, Array.size_setIfInBounds, Array.size_push]; omega)) [l55_15_cut, r55_12, hkb, hl, c1, eqT, eqF, neT, neF, ltT, ltF, leT, leF, nltT, nltF, nleT, nleF, nneT, nneF, List.getElem?_cons_zero, List.getElem?_cons_succ]
    exact hkn g' κ' _ (stop (.inl (by omega))) ag ch

end Go.Proofs.Ytkkagpchcefidaa

/- QueueOwn: the lists of nodes gone on from, one round. -/
set_option linter.unusedSimpArgs false
set_option linter.unusedVariables false
namespace Go.Proofs.Ytkkagpchcefidaa
open Go.Ev

def ndBody : ACode := (.block 7 (.regionD d55_18 [(1, [21])] [1, 4, 5, 6, 9]))
theorem l55_20_cut : l55_20 = (.seq (.seq (.region r55_17 [1, 4, 5, 6, 9, 134]) (.cond (.tmp 134) .skip (.exit 6))) (.seq ndBody (.region r55_19 [1, 4, 5, 6, 9]))) := rfl
def ndGrow : ACode := (.seq (.region r55_16 [1, 4, 5, 6, 9]) (.block 6 (.loop [1, 4, 5, 6, 9] l55_20)))

set_option maxHeartbeats 2000000 in
theorem ndBody_spec {F : Nat} (hF : 100 ≤ F) {κ : Kp} {j : Nat} {g : H} {kb : Nat} {L G C P T N v4 : Value} {m : Int} {eC eP eT : List (Ent × Nat)} {bN : List Ent} {cnt : Nat → Nat} (fb : FB κ j g kb L G C P T N m eC eP eT (mc bN cnt)) (hb : Base j 4 bN)
    (kC : Kinds j 1 eC) (kP : Kinds j 2 eP) (kT : Kinds j 3 eT) {i q : Nat} (hi : i < bN.length) (hc : cnt i ≤ 100) {w99 : Value}
    {kn kr : K} {ke : Nat → K} {Q : Value → H → Prop}
    (hkn : ∀ g' κ', FB κ' j g' kb L G C P T N m eC eP eT (mc bN (fun f => if f = i then cnt i + 1 else cnt f)) → Agr g.size κ κ' → Ch κ (famS j 6 4) g g' →
      Ans (kn [(1, .int .i64 m), (4, v4), (5, .pointer (some ⟨kb, 0, none⟩)), (6, .int .i64 q), (9, .int .i64 i)] g' []) Q) :
    Ans (evC F (cf F) ndBody kn ke kr [(1, .int .i64 m), (4, v4), (5, .pointer (some ⟨kb, 0, none⟩)), (6, .int .i64 q), (9, .int .i64 i), (134, w99)] g []) Q := by
  obtain ⟨e, he⟩ : ∃ e, bN[i]? = some e := ⟨_, List.getElem?_eq_getElem hi⟩
  obtain ⟨hm1, hm2, hm3⟩ := hb.mr e (List.mem_of_getElem? he)
  obtain ⟨ei, ek, hcol⟩ := hb.kind e (List.mem_of_getElem? he)
  have hE : ∀ x ∈ mc bN cnt, x.1.col ≠ .ans j 6 0 0 := fun x hx h => by
    obtain ⟨_, _, h'⟩ := hb.kind _ (mc_mem hx)
    rw [h'] at h; injection h with _ h; omega
  obtain ⟨b, cs, an, tv, eT, hk, hg, hl, r0, r2, ot, vt, st, ap⟩ := ent_grow fb.bN (mc_get he) (new := [.string { data := #[] }, .string { data := #[] }, .int .i64 (-e.mr)]) rfl rfl (bytes := 40) (by omega) hE (fun k x hx hne => by
    obtain ⟨h1, _⟩ := mc_inv hx
    exact hb.nd k i _ _ h1 he hne)
  rw [mc_len] at eT
  have hkb := fb.kbc
  have hkbs := lt_of_get hkb
  have hneg : IntKind.i64.wrap (0 - e.mr) = -e.mr := by rw [IntKind.wrap_i64]; omega
  have hneg' : IntKind.i64.wrap (-e.mr) = -e.mr := by rw [IntKind.wrap_i64]; omega
  subst eT
  simp only [oneCell] at ot
  have hgs := lt_of_get hg
  simp (disch := first | omega | (simp only [newRow_size, Array.size_setIfInBounds, Array.size_push]; done) | (simp only [newRow_size, Array.size_setIfInBounds, Array.size_push]; omega)) [ndBody, d55_18, hkb, hg, hl, r0, r2, hi, eqT, eqF, neT, neF, ltT, ltF, leT, leF, nltT, nltF, nleT, nleF, nneT, nneF, List.getElem?_cons_zero, List.getElem?_cons_succ, hneg, hneg', srcOf]
  refine Ans.nextD ap ?_
  rintro tv' g1 ⟨ot', vt', an', g2, κ', hg1, hwr, z2, z1, ag, ch, ch1, bT'⟩
  have hg1s := lt_of_get hg1
  simp only [oneCell] at ot'
  simp only [vcells] at vt'
  have hkb1 := ch1.get hkb (by rw [fb.kbk, hcol]; simp)
  have sV : Ev.sameV (.slice (some ⟨b, 0, none⟩) bN.length bN.length) (.slice (some ⟨b, 0, none⟩) bN.length bN.length) = true := by simp [Ev.sameV, sameCell]
  simp (disch := first | omega | (simp only [newRow_size, Array.size_setIfInBounds, Array.size_push]; done) | (simp only [newRow_size, Array.size_setIfInBounds, Array.size_push]; omega)) [hg1, hi, eqT, eqF, neT, neF, ltT, ltF, leT, leF, nltT, nltF, nleT, nleF, nneT, nneF, List.getElem?_cons_zero, List.getElem?_cons_succ, -wr, hwr, vt', ot', dk_go, chks_nil, chks_cons, chkA_nil, chkA_cons, chk1_no, chk1_yes, chkV_some, hAt_eq, hOf_some, hOf_none, hkb, hkb1, sV, mc_len]
  refine hkn g2 κ' ⟨?_, ?_, ?_, ?_, ?_, ?_⟩ ag (ch.weak (fun c h => by rcases h with h | h; exact .inl h; exact .inr ⟨ei, ek, by rw [h, hcol]⟩))
  · exact ch.get hkb (by rw [fb.kbk, hcol]; simp)
  · exact (ag kb hkbs).trans fb.kbk
  · exact fb.bC.ents ch (by rw [hcol]; simp) (fun x hx h => by obtain ⟨_, _, h'⟩ := kC x hx; rw [h', hcol] at h; rcases h with h | h <;> injection h <;> omega) ag
  · exact fb.bP.ents ch (by rw [hcol]; simp) (fun x hx h => by obtain ⟨_, _, h'⟩ := kP x hx; rw [h', hcol] at h; rcases h with h | h <;> injection h <;> omega) ag
  · exact fb.bT.ents ch (by rw [hcol]; simp) (fun x hx h => by obtain ⟨_, _, h'⟩ := kT x hx; rw [h', hcol] at h; rcases h with h | h <;> injection h <;> omega) ag
  · rw [mc_set he] at bT'; exact bT'

set_option maxHeartbeats 2000000 in
theorem ndGrow_spec {F : Nat} (hF : 20000 ≤ F) {κ : Kp} {j : Nat} {g : H} {kb : Nat} {L G C P T N v4 : Value} {m : Int} {eC eP eT : List (Ent × Nat)} {bN : List Ent} {q : Nat} (fb : FB κ j g kb L G C P T N m eC eP eT (mc bN (gq q))) (hb : Base j 4 bN)
    (kC : Kinds j 1 eC) (kP : Kinds j 2 eP) (kT : Kinds j 3 eT) (hq : q < 64) {re : Env}
    {kn kr : K} {ke : Nat → K} {Q : Value → H → Prop}
    (hkn : ∀ g' κ' (e : Env), FB κ' j g' kb L G C P T N m eC eP eT (mc bN (gq (q + 1))) → Agr g.size κ κ' → Ch κ (famS j 6 4) g g' →
      Ans (kn ((1, .int .i64 m) :: (4, v4) :: (5, .pointer (some ⟨kb, 0, none⟩)) :: (6, .int .i64 q) :: e) g' []) Q) :
    Ans (evC F (cf F) ndGrow kn ke kr ((1, .int .i64 m) :: (4, v4) :: (5, .pointer (some ⟨kb, 0, none⟩)) :: (6, .int .i64 q) :: re) g []) Q := by
  have hlen := hb.len
  simp (disch := first | omega | (simp only [newRow_size, Array.size_setIfInBounds, Array.size_push]; done) | (simp only [newRow_size, Array.size_setIfInBounds, Array.size_push]; omega)) [ndGrow, r55_16]
  refine loop_rule (fun mm e g' => ∃ (i : Nat) (κ' : Kp), mm = bN.length - i ∧ i ≤ bN.length ∧ e = [(1, .int .i64 m), (4, v4), (5, .pointer (some ⟨kb, 0, none⟩)), (6, .int .i64 q), (9, .int .i64 i)] ∧ FB κ' j g' kb L G C P T N m eC eP eT (mc bN (fun f => if f < i then gq (q + 1) f else gq q f)) ∧ Agr g.size κ κ' ∧ Ch κ (famS j 6 4) g g') ?_ _ bN.length _ _ (by omega)
    ⟨0, κ, by omega, by omega, rfl, by rw [mc_congr (cnt' := gq q) (fun f _ => by rw [if_neg (by omega)])]; exact fb, Agr.refl _ _, Ch.refl _ _ _⟩
  rintro mm e g' again ⟨i, κ', rfl, hi, rfl, fb', ag, ch⟩ ih
  have hw : IntKind.i64.wrap ((i : Int) + 1) = ((i + 1 : Nat) : Int) := by rw [IntKind.wrap_i64]; omega
  have hkb := fb'.kbc
  have hl := fb'.bN.sl.len
  rw [mc_len] at hl
  have y := ch.1
  have go : ∀ w99, i < bN.length → (q < 2 ∨ i < 64) → Ans (evC F (cf F) ndBody (fun s h ds => evC F (cf F) (.region r55_19 [1, 4, 5, 6, 9]) (keepK [1, 4, 5, 6, 9] again) (putK 6 kn ke) kr s h ds) (putK 6 kn ke) kr [(1, .int .i64 m), (4, v4), (5, .pointer (some ⟨kb, 0, none⟩)), (6, .int .i64 q), (9, .int .i64 i), (134, w99)] g' []) Q := by
    intro w99 hlt hqi
    obtain ⟨g1, g2⟩ := gq_succ q i hqi
    refine ndBody_spec (F := F) (by omega) fb' hb kC kP kT hlt (by rw [if_neg (by omega), g1]; omega) ?_
    intro g3 κ3 fb3 ag3 ch3
    simp (disch := first | omega | (simp only [newRow_size, Array.size_setIfInBounds, Array.size_push]; done) | (simp only [newRow_size, Array.size_setIfInBounds, Array.size_push]; omega)) [r55_19, hw]
    refine ih (bN.length - (i + 1)) _ _ (by omega) ⟨i + 1, κ3, rfl, by omega, rfl, ?_, ag.trans ag3 y, ch.trans ch3 ag⟩
    rw [mc_congr (cnt' := fun f => if f < i + 1 then gq (q + 1) f else gq q f) (fun f _ => by
      by_cases h : f = i
      · subst h
        rw [if_pos rfl, if_neg (Nat.lt_irrefl _), if_pos (by omega), g1, g2]
      · rw [if_neg h]
        by_cases h2 : f < i
        · rw [if_pos h2, if_pos (by omega)]
        · rw [if_neg h2, if_neg (by omega)])] at fb3
    exact fb3
  have stop : (i = bN.length ∨ ¬ (q < 2 ∨ i < 64)) → FB κ' j g' kb L G C P T N m eC eP eT (mc bN (gq (q + 1))) := by
    intro h
    rw [mc_congr (cnt' := gq (q + 1)) (fun f hf => by
      by_cases h2 : f < i
      · rw [if_pos h2]
      · rw [if_neg h2]
        rcases h with h | h
        · omega
        · exact (gq_stop q f (by omega)).symm)] at fb'
    exact fb'
  by_cases hlt : i < bN.length
  · have c1 : (i : Int) < (bN.length : Int) := by omega
    by_cases hq2 : q < 2
    · have c2 : (q : Int) < 2 := by omega
      simp (disch := first | omega | (simp only [newRow_size, Array.size_setIfInBounds, Array.size_push]; done) | (simp only [newRow_size, Array.size_setIfInBounds, Array.size_push]; omega)) [l55_20_cut, r55_17, hkb, hl, c1, c2, eqT, eqF, neT, neF, ltT, ltF, leT, leF, nltT, nltF, nleT, nleF, nneT, nneF, List.getElem?_cons_zero, List.getElem?_cons_succ]
      exact go _ hlt (.inl hq2)
    · have c2 : ¬ (q : Int) < 2 := by omega
      by_cases hi64 : i < 64
      · have c3 : (i : Int) < 64 := by omega
        simp (disch := first | omega | (simp only [newRow_size, Array.size_setIfInBounds, Array.size_push]; done) | (simp only [newRow_size, Array.size_setIfInBounds, Array.size_push]; omega)) [l55_20_cut, r55_17, hkb, hl, c1, c2, c3, eqT, eqF, neT, neF, ltT, ltF, leT, leF, nltT, nltF, nleT, nleF, nneT, nneF, List.getElem?_cons_zero, List.getElem?_cons_succ]
        exact go _ hlt (.inr hi64)
      · have c3 : ¬ (i : Int) < 64 := by omega
        simp (disch := first | omega | (simp only [newRow_size, Array.size_setIfInBounds, Array.size_push]; done) | (simp only [newRow_size, Array.size_setIfInBounds, Array.size_push]; omega)) [l55_20_cut, r55_17, hkb, hl, c1, c2, c3, eqT, eqF, neT, neF, ltT, ltF, leT, leF, nltT, nltF, nleT, nleF, nneT, nneF, List.getElem?_cons_zero, List.getElem?_cons_succ]
        exact hkn g' κ' _ (stop (.inr (by omega))) ag ch
  · have c1 : ¬ (i : Int) < (bN.length : Int) := by omega
    simp (disch := first | omega | (simp only [newRow_size, Array.size_setIfInBounds, Array.size_push]; done) | (simp only [newRow_size, Array.size_setIfInBounds, Array.size_push]; omega)) [l55_20_cut, r55_17, hkb, hl, c1, eqT, eqF, neT, neF, ltT, ltF, leT, leF, nltT, nltF, nleT, nleF, nneT, nneF, List.getElem?_cons_zero, List.getElem?_cons_succ]
    exact hkn g' κ' _ (stop (.inl (by omega))) ag ch

end Go.Proofs.Ytkkagpchcefidaa

/- QueueOwn: the lists of changes and of parts gone on from, one round. -/
set_option linter.unusedSimpArgs false
set_option linter.unusedVariables false
namespace Go.Proofs.Ytkkagpchcefidaa
open Go.Ev

def cBody : ACode := (.regionD d55_7 [(1, [23])] [1, 4, 5, 6, 7])
def pBody : ACode := (.regionD d55_8 [(1, [23])] [1, 4, 5, 6, 7])
theorem l55_10_cut : l55_10 = (.seq (.seq (.region r55_6 [1, 4, 5, 6, 7, 38]) (.cond (.tmp 38) .skip (.exit 2))) (.seq (.block 3 (.seq cBody pBody)) (.region r55_9 [1, 4, 5, 6, 7]))) := rfl
def cpGrow : ACode := (.seq (.region r55_5 [1, 4, 5, 6, 7]) (.block 2 (.loop [1, 4, 5, 6, 7] l55_10)))

set_option maxHeartbeats 2000000 in
theorem cBody_spec {F : Nat} (hF : 100 ≤ F) {κ : Kp} {j : Nat} {g : H} {kb : Nat} {L G C P T N v4 : Value} {m : Int} {eP eT eN : List (Ent × Nat)} {bC : List Ent} {cnt : Nat → Nat} (fb : FB κ j g kb L G C P T N m (mc bC cnt) eP eT eN) (hb : Base j 1 bC)
    (kP : Kinds j 2 eP) (kT : Kinds j 3 eT) (kN : Kinds j 4 eN) {i q : Nat} (hi : i < bC.length) (hc : cnt i = q) (hq : q ≤ 64) {ww : Env}
    {kn kr : K} {ke : Nat → K} {Q : Value → H → Prop}
    (hkn : ∀ g' κ', FB κ' j g' kb L G C P T N m (mc bC (fun f => if f = i then cnt i + 1 else cnt f)) eP eT eN → Agr g.size κ κ' → Ch κ (famS j 7 1) g g' →
      Ans (kn [(1, .int .i64 m), (4, v4), (5, .pointer (some ⟨kb, 0, none⟩)), (6, .int .i64 q), (7, .int .i64 i)] g' []) Q) :
    Ans (evC F (cf F) cBody kn ke kr ((1, .int .i64 m) :: (4, v4) :: (5, .pointer (some ⟨kb, 0, none⟩)) :: (6, .int .i64 q) :: (7, .int .i64 i) :: ww) g []) Q := by
  obtain ⟨e, he⟩ : ∃ e, bC[i]? = some e := ⟨_, List.getElem?_eq_getElem hi⟩
  obtain ⟨hm1, hm2, hm3⟩ := hb.mr e (List.mem_of_getElem? he)
  obtain ⟨ei, ek, hcol⟩ := hb.kind e (List.mem_of_getElem? he)
  have hE : ∀ x ∈ mc bC cnt, x.1.col ≠ .ans j 7 0 0 := fun x hx h => by
    obtain ⟨_, _, h'⟩ := hb.kind _ (mc_mem hx)
    rw [h'] at h; injection h with _ h; omega
  obtain ⟨b, cs, an, tv, eT, hk, hg, hl, r0, r2, ot, vt, st, ap⟩ := ent_grow fb.bC (mc_get he) (new := [.int .i64 q, .string { data := #[] }, .string { data := #[] }, .int .i64 (-e.mr), .slice none 0 0]) (by rw [hc]; rfl) rfl (bytes := 72) (by omega) hE (fun k x hx hne => by
    obtain ⟨h1, _⟩ := mc_inv hx
    exact hb.nd k i _ _ h1 he hne)
  rw [mc_len] at eT
  have hkb := fb.kbc
  have hkbs := lt_of_get hkb
  have hneg : IntKind.i64.wrap (0 - e.mr) = -e.mr := by rw [IntKind.wrap_i64]; omega
  have hneg' : IntKind.i64.wrap (-e.mr) = -e.mr := by rw [IntKind.wrap_i64]; omega
  subst eT
  simp only [oneCell] at ot
  have hgs := lt_of_get hg
  simp (disch := first | omega | (simp only [newRow_size, Array.size_setIfInBounds, Array.size_push]; done) | (simp only [newRow_size, Array.size_setIfInBounds, Array.size_push]; omega)) [cBody, d55_7, hkb, hg, hl, r0, r2, hi, eqT, eqF, neT, neF, ltT, ltF, leT, leF, nltT, nltF, nleT, nleF, nneT, nneF, List.getElem?_cons_zero, List.getElem?_cons_succ, hneg, hneg', srcOf]
  refine Ans.nextD ap ?_
  rintro tv' g1 ⟨ot', vt', an', g2, κ', hg1, hwr, z2, z1, ag, ch, ch1, bT'⟩
  have hg1s := lt_of_get hg1
  simp only [oneCell] at ot'
  simp only [vcells] at vt'
  have hkb1 := ch1.get hkb (by rw [fb.kbk, hcol]; simp)
  have sV : Ev.sameV (.slice (some ⟨b, 0, none⟩) bC.length bC.length) (.slice (some ⟨b, 0, none⟩) bC.length bC.length) = true := by simp [Ev.sameV, sameCell]
  simp (disch := first | omega | (simp only [newRow_size, Array.size_setIfInBounds, Array.size_push]; done) | (simp only [newRow_size, Array.size_setIfInBounds, Array.size_push]; omega)) [hg1, hi, eqT, eqF, neT, neF, ltT, ltF, leT, leF, nltT, nltF, nleT, nleF, nneT, nneF, List.getElem?_cons_zero, List.getElem?_cons_succ, -wr, hwr, vt', ot', dk_go, chks_nil, chks_cons, chkA_nil, chkA_cons, chk1_no, chk1_yes, chkV_some, hAt_eq, hOf_some, hOf_none, hkb, hkb1, sV, mc_len]
  refine hkn g2 κ' ⟨?_, ?_, ?_, ?_, ?_, ?_⟩ ag (ch.weak (fun c h => by rcases h with h | h; exact .inl h; exact .inr ⟨ei, ek, by rw [h, hcol]⟩))
  · exact ch.get hkb (by rw [fb.kbk, hcol]; simp)
  · exact (ag kb hkbs).trans fb.kbk
  · rw [mc_set he] at bT'; exact bT'
  · exact fb.bP.ents ch (by rw [hcol]; simp) (fun x hx h => by obtain ⟨_, _, h'⟩ := kP x hx; rw [h', hcol] at h; rcases h with h | h <;> injection h <;> omega) ag
  · exact fb.bT.ents ch (by rw [hcol]; simp) (fun x hx h => by obtain ⟨_, _, h'⟩ := kT x hx; rw [h', hcol] at h; rcases h with h | h <;> injection h <;> omega) ag
  · exact fb.bN.ents ch (by rw [hcol]; simp) (fun x hx h => by obtain ⟨_, _, h'⟩ := kN x hx; rw [h', hcol] at h; rcases h with h | h <;> injection h <;> omega) ag

set_option maxHeartbeats 2000000 in
theorem pBody_spec {F : Nat} (hF : 100 ≤ F) {κ : Kp} {j : Nat} {g : H} {kb : Nat} {L G C P T N v4 : Value} {m : Int} {eC eT eN : List (Ent × Nat)} {bP : List Ent} {cnt : Nat → Nat} (fb : FB κ j g kb L G C P T N m eC (mc bP cnt) eT eN) (hb : Base j 2 bP)
    (kC : Kinds j 1 eC) (kT : Kinds j 3 eT) (kN : Kinds j 4 eN) {i q : Nat} (hi : i < bP.length) (hc : cnt i = q) (hq : q ≤ 64) {ww : Env}
    {kn kr : K} {ke : Nat → K} {Q : Value → H → Prop}
    (hkn : ∀ g' κ', FB κ' j g' kb L G C P T N m eC (mc bP (fun f => if f = i then cnt i + 1 else cnt f)) eT eN → Agr g.size κ κ' → Ch κ (famS j 8 2) g g' →
      Ans (kn [(1, .int .i64 m), (4, v4), (5, .pointer (some ⟨kb, 0, none⟩)), (6, .int .i64 q), (7, .int .i64 i)] g' []) Q) :
    Ans (evC F (cf F) pBody kn ke kr ((1, .int .i64 m) :: (4, v4) :: (5, .pointer (some ⟨kb, 0, none⟩)) :: (6, .int .i64 q) :: (7, .int .i64 i) :: ww) g []) Q := by
  obtain ⟨e, he⟩ : ∃ e, bP[i]? = some e := ⟨_, List.getElem?_eq_getElem hi⟩
  obtain ⟨hm1, hm2, hm3⟩ := hb.mr e (List.mem_of_getElem? he)
  obtain ⟨ei, ek, hcol⟩ := hb.kind e (List.mem_of_getElem? he)
  have hE : ∀ x ∈ mc bP cnt, x.1.col ≠ .ans j 8 0 0 := fun x hx h => by
    obtain ⟨_, _, h'⟩ := hb.kind _ (mc_mem hx)
    rw [h'] at h; injection h with _ h; omega
  obtain ⟨b, cs, an, tv, eT, hk, hg, hl, r0, r2, ot, vt, st, ap⟩ := ent_grow fb.bP (mc_get he) (new := [.int .i64 (-e.mr - q), .int .i64 0, .string { data := #[] }, .int .i64 0, .slice none 0 0]) (by rw [hc]; rfl) rfl (bytes := 64) (by omega) hE (fun k x hx hne => by
    obtain ⟨h1, _⟩ := mc_inv hx
    exact hb.nd k i _ _ h1 he hne)
  rw [mc_len] at eT
  have hkb := fb.kbc
  have hkbs := lt_of_get hkb
  have hneg : IntKind.i64.wrap (0 - e.mr) = -e.mr := by rw [IntKind.wrap_i64]; omega
  have hneg' : IntKind.i64.wrap (-e.mr) = -e.mr := by rw [IntKind.wrap_i64]; omega
  have hsub : IntKind.i64.wrap (-e.mr - (q : Int)) = -e.mr - q := by rw [IntKind.wrap_i64]; omega
  subst eT
  simp only [oneCell] at ot
  have hgs := lt_of_get hg
  simp (disch := first | omega | (simp only [newRow_size, Array.size_setIfInBounds, Array.size_push]; done) | (simp only [newRow_size, Array.size_setIfInBounds, Array.size_push]; omega)) [pBody, d55_8, hkb, hg, hl, r0, r2, hi, eqT, eqF, neT, neF, ltT, ltF, leT, leF, nltT, nltF, nleT, nleF, nneT, nneF, List.getElem?_cons_zero, List.getElem?_cons_succ, hneg, hneg', hsub, srcOf]
  refine Ans.nextD ap ?_
  rintro tv' g1 ⟨ot', vt', an', g2, κ', hg1, hwr, z2, z1, ag, ch, ch1, bT'⟩
  have hg1s := lt_of_get hg1
  simp only [oneCell] at ot'
  simp only [vcells] at vt'
  have hkb1 := ch1.get hkb (by rw [fb.kbk, hcol]; simp)
  have sV : Ev.sameV (.slice (some ⟨b, 0, none⟩) bP.length bP.length) (.slice (some ⟨b, 0, none⟩) bP.length bP.length) = true := by simp [Ev.sameV, sameCell]
  simp (disch := first | omega | (simp only [newRow_size, Array.size_setIfInBounds, Array.size_push]; done) | (simp only [newRow_size, Array.size_setIfInBounds, Array.size_push]; omega)) [hg1, hi, eqT, eqF, neT, neF, ltT, ltF, leT, leF, nltT, nltF, nleT, nleF, nneT, nneF, List.getElem?_cons_zero, List.getElem?_cons_succ, -wr, hwr, vt', ot', dk_go, chks_nil, chks_cons, chkA_nil, chkA_cons, chk1_no, chk1_yes, chkV_some, hAt_eq, hOf_some, hOf_none, hkb, hkb1, sV, mc_len]
  refine hkn g2 κ' ⟨?_, ?_, ?_, ?_, ?_, ?_⟩ ag (ch.weak (fun c h => by rcases h with h | h; exact .inl h; exact .inr ⟨ei, ek, by rw [h, hcol]⟩))
  · exact ch.get hkb (by rw [fb.kbk, hcol]; simp)
  · exact (ag kb hkbs).trans fb.kbk
  · exact fb.bC.ents ch (by rw [hcol]; simp) (fun x hx h => by obtain ⟨_, _, h'⟩ := kC x hx; rw [h', hcol] at h; rcases h with h | h <;> injection h <;> omega) ag
  · rw [mc_set he] at bT'; exact bT'
  · exact fb.bT.ents ch (by rw [hcol]; simp) (fun x hx h => by obtain ⟨_, _, h'⟩ := kT x hx; rw [h', hcol] at h; rcases h with h | h <;> injection h <;> omega) ag
  · exact fb.bN.ents ch (by rw [hcol]; simp) (fun x hx h => by obtain ⟨_, _, h'⟩ := kN x hx; rw [h', hcol] at h; rcases h with h | h <;> injection h <;> omega) ag


set_option maxHeartbeats 2000000 in
theorem cpGrow_spec {F : Nat} (hF : 20000 ≤ F) {κ : Kp} {j : Nat} {g : H} {kb : Nat} {L G C P T N v4 : Value} {m : Int} {eT eN : List (Ent × Nat)} {bC bP : List Ent} {q : Nat} (fb : FB κ j g kb L G C P T N m (mc bC (gq q)) (mc bP (gq q)) eT eN) (hC : Base j 1 bC) (hP : Base j 2 bP) (hl : bP.length = bC.length)
    (kT : Kinds j 3 eT) (kN : Kinds j 4 eN) (hq : q < 64) {re : Env}
    {kn kr : K} {ke : Nat → K} {Q : Value → H → Prop}
    (hkn : ∀ g' κ' (e : Env), FB κ' j g' kb L G C P T N m (mc bC (gq (q + 1))) (mc bP (gq (q + 1))) eT eN → Agr g.size κ κ' → Ch κ (fun c => famS j 7 1 c ∨ famS j 8 2 c) g g' →
      Ans (kn ((1, .int .i64 m) :: (4, v4) :: (5, .pointer (some ⟨kb, 0, none⟩)) :: (6, .int .i64 q) :: e) g' []) Q) :
    Ans (evC F (cf F) cpGrow kn ke kr ((1, .int .i64 m) :: (4, v4) :: (5, .pointer (some ⟨kb, 0, none⟩)) :: (6, .int .i64 q) :: re) g []) Q := by
  have hlen := hC.len
  simp (disch := first | omega | (simp only [newRow_size, Array.size_setIfInBounds, Array.size_push]; done) | (simp only [newRow_size, Array.size_setIfInBounds, Array.size_push]; omega)) [cpGrow, r55_5]
  refine loop_rule (fun mm e g' => ∃ (i : Nat) (κ' : Kp), mm = bC.length - i ∧ i ≤ bC.length ∧ e = [(1, .int .i64 m), (4, v4), (5, .pointer (some ⟨kb, 0, none⟩)), (6, .int .i64 q), (7, .int .i64 i)] ∧ FB κ' j g' kb L G C P T N m (mc bC (fun f => if f < i then gq (q + 1) f else gq q f)) (mc bP (fun f => if f < i then gq (q + 1) f else gq q f)) eT eN ∧ Agr g.size κ κ' ∧ Ch κ (fun c => famS j 7 1 c ∨ famS j 8 2 c) g g') ?_ _ bC.length _ _ (by omega)
    ⟨0, κ, by omega, by omega, rfl, by rw [mc_congr (base := bC) (cnt' := gq q) (fun f _ => by rw [if_neg (by omega)]), mc_congr (base := bP) (cnt' := gq q) (fun f _ => by rw [if_neg (by omega)])]; exact fb, Agr.refl _ _, Ch.refl _ _ _⟩
  rintro mm e g' again ⟨i, κ', rfl, hi, rfl, fb', ag, ch⟩ ih
  have hw : IntKind.i64.wrap ((i : Int) + 1) = ((i + 1 : Nat) : Int) := by rw [IntKind.wrap_i64]; omega
  have hkb := fb'.kbc
  have hlC := fb'.bC.sl.len
  rw [mc_len] at hlC
  have y := ch.1
  have cong : ∀ (base : List Ent), (q < 2 ∨ i < 64) → mc base (fun f => if f = i then (if i < i then gq (q + 1) i else gq q i) + 1 else if f < i then gq (q + 1) f else gq q f) = mc base (fun f => if f < i + 1 then gq (q + 1) f else gq q f) := by
    intro base hqi
    obtain ⟨g1, g2⟩ := gq_succ q i hqi
    refine mc_congr (fun f _ => ?_)
    by_cases h : f = i
    · subst h
      rw [if_pos rfl, if_neg (Nat.lt_irrefl _), if_pos (by omega), g1, g2]
    · rw [if_neg h]
      by_cases h2 : f < i
      · rw [if_pos h2, if_pos (by omega)]
      · rw [if_neg h2, if_neg (by omega)]
  have go : ∀ ww, i < bC.length → (q < 2 ∨ i < 64) → Ans (evC F (cf F) cBody (fun s h ds => evC F (cf F) pBody (fun s h ds => evC F (cf F) (.region r55_9 [1, 4, 5, 6, 7]) (keepK [1, 4, 5, 6, 7] again) (putK 2 kn ke) kr s h ds) (putK 3 (fun s h ds => evC F (cf F) (.region r55_9 [1, 4, 5, 6, 7]) (keepK [1, 4, 5, 6, 7] again) (putK 2 kn ke) kr s h ds) (putK 2 kn ke)) kr s h ds) (putK 3 (fun s h ds => evC F (cf F) (.region r55_9 [1, 4, 5, 6, 7]) (keepK [1, 4, 5, 6, 7] again) (putK 2 kn ke) kr s h ds) (putK 2 kn ke)) kr ((1, .int .i64 m) :: (4, v4) :: (5, .pointer (some ⟨kb, 0, none⟩)) :: (6, .int .i64 q) :: (7, .int .i64 i) :: ww) g' []) Q := by
    intro ww hlt hqi
    obtain ⟨g1, g2⟩ := gq_succ q i hqi
    refine cBody_spec (F := F) (by omega) fb' hC (hP.kinds _) kT kN hlt (by rw [if_neg (by omega), g1]) (by omega) ?_
    intro g3 κ3 fb3 ag3 ch3
    refine pBody_spec (F := F) (ww := []) (by omega) fb3 hP (hC.kinds _) kT kN (by omega) (by rw [if_neg (by omega), g1]) (by omega) ?_
    intro g4 κ4 fb4 ag4 ch4
    simp (disch := first | omega | (simp only [newRow_size, Array.size_setIfInBounds, Array.size_push]; done) | (simp only [newRow_size, Array.size_setIfInBounds, Array.size_push]; omega)) [r55_9, hw]
    have y3 := ch3.1
    rw [cong bC hqi, cong bP hqi] at fb4
    refine ih (bC.length - (i + 1)) _ _ (by omega) ⟨i + 1, κ4, rfl, by omega, rfl, fb4, ag.trans (ag3.trans ag4 y3) y, ch.trans ((ch3.weak (fun c h => .inl h)).trans (ch4.weak (fun c h => .inr h)) ag3) ag⟩
  have stop : (i = bC.length ∨ ¬ (q < 2 ∨ i < 64)) → FB κ' j g' kb L G C P T N m (mc bC (gq (q + 1))) (mc bP (gq (q + 1))) eT eN := by
    intro h
    have : ∀ (base : List Ent), base.length = bC.length → mc base (fun f => if f < i then gq (q + 1) f else gq q f) = mc base (gq (q + 1)) := fun base hb => mc_congr (fun f hf => by
      by_cases h2 : f < i
      · rw [if_pos h2]
      · rw [if_neg h2]
        rcases h with h | h
        · omega
        · exact (gq_stop q f (by omega)).symm)
    rw [this bC rfl, this bP hl] at fb'
    exact fb'
  by_cases hlt : i < bC.length
  · have c1 : (i : Int) < (bC.length : Int) := by omega
    by_cases hq2 : q < 2
    · have c2 : (q : Int) < 2 := by omega
      simp (disch := first | omega | (simp only [newRow_size, Array.size_setIfInBounds, Array.size_push]; done) | (simp only [newRow_size, Array.size_setIfInBounds, Array.size_push]; omega)) [l55_10_cut, r55_6, hkb, hlC, c1, c2, eqT, eqF, neT, neF, ltT, ltF, leT, leF, nltT, nltF, nleT, nleF, nneT, nneF, List.getElem?_cons_zero, List.getElem?_cons_succ]
      exact go _ hlt (.inl hq2)
    · have c2 : ¬ (q : Int) < 2 := by omega
      by_cases hi64 : i < 64
      · have c3 : (i : Int) < 64 := by omega
        simp (disch := first | omega | (simp only [newRow_size, Array.size_setIfInBounds, Array.size_push]; done) | (simp only [newRow_size, Array.size_setIfInBounds, Array.size_push]; omega)) [l55_10_cut, r55_6, hkb, hlC, c1, c2, c3, eqT, eqF, neT, neF, ltT, ltF, leT, leF, nltT, nltF, nleT, nleF, nneT, nneF, List.getElem?_cons_zero, List.getElem?_cons_succ]
        exact go _ hlt (.inr hi64)
      · have c3 : ¬ (i : Int) < 64 := by omega
        simp (disch := first | omega | (simp only [newRow_size, Array.size_setIfInBounds, Array.size_push]; done) | (simp only [newRow_size, Array.size_setIfInBounds, Array.size_push]; omega)) [l55_10_cut, r55_6, hkb, hlC, c1, c2, c3, eqT, eqF, neT, neF, ltT, ltF, leT, leF, nltT, nltF, nleT, nleF, nneT, nneF, List.getElem?_cons_zero, List.getElem?_cons_succ]
        exact hkn g' κ' _ (stop (.inr (by omega))) ag ch
  · have c1 : ¬ (i : Int) < (bC.length : Int) := by omega
    simp (disch := first | omega | (simp only [newRow_size, Array.size_setIfInBounds, Array.size_push]; done) | (simp only [newRow_size, Array.size_setIfInBounds, Array.size_push]; omega)) [l55_10_cut, r55_6, hkb, hlC, c1, eqT, eqF, neT, neF, ltT, ltF, leT, leF, nltT, nltF, nleT, nleF, nneT, nneF, List.getElem?_cons_zero, List.getElem?_cons_succ]
    exact hkn g' κ' _ (stop (.inl (by omega))) ag ch

end Go.Proofs.Ytkkagpchcefidaa

/- QueueOwn: the marks' lists are apart. -/
set_option linter.unusedSimpArgs false
set_option linter.unusedVariables false
namespace Go.Proofs.Ytkkagpchcefidaa
open Go.Ev

theorem zip_pw {α : Type} (l : List α) : l.zipIdx.Pairwise (fun x y => x.2 ≠ y.2) := by
  rw [List.pairwise_iff_getElem]
  intro i j hi hj hij
  have h1 := zip_inv (List.getElem?_eq_getElem hi)
  have h2 := zip_inv (List.getElem?_eq_getElem hj)
  rw [h1.2, h2.2]
  omega

theorem fT_pw (j i : Nat) (m : Int) (l : List Tgd) : (fT j i m l).Pairwise (fun a b => a.1.col ≠ b.1.col) := by
  unfold fT
  rw [List.pairwise_map]
  exact (zip_pw l).imp (fun h e => h (by injection e))
theorem fN_pw (j i : Nat) (m : Int) (l : List Prt) : (fN j i m l).Pairwise (fun a b => a.1.col ≠ b.1.col) := by
  unfold fN
  rw [List.pairwise_map]
  exact (zip_pw l).imp (fun h e => h (by injection e))
theorem fC_pw (j : Nat) (m : Int) (l : List Itm) : (fC j m l).Pairwise (fun a b => a.1.col ≠ b.1.col) := by
  unfold fC
  rw [List.pairwise_map]
  exact (zip_pw l).imp (fun h e => h (by injection e))
theorem fP_pw (j : Nat) (m : Int) (l : List Itm) : (fP j m l).Pairwise (fun a b => a.1.col ≠ b.1.col) := by
  unfold fP
  rw [List.pairwise_map]
  exact (zip_pw l).imp (fun h e => h (by injection e))

theorem fT_mem {j i : Nat} {m : Int} {l : List Tgd} {a : Ent × Nat} (h : a ∈ fT j i m l) : ∃ t k, l[k]? = some t ∧ a = (⟨.ans j 3 i k, t.tags.length, ownM m i k⟩, 0) := by
  unfold fT at h
  obtain ⟨y, hy, rfl⟩ := List.mem_map.1 h
  obtain ⟨n, hn⟩ := List.getElem?_of_mem hy
  obtain ⟨h1, h2⟩ := zip_inv hn
  exact ⟨y.1, y.2, by rw [h2]; exact h1, rfl⟩
theorem fN_mem {j i : Nat} {m : Int} {l : List Prt} {a : Ent × Nat} (h : a ∈ fN j i m l) : ∃ t k, l[k]? = some t ∧ a = (⟨.ans j 4 i k, t.nodes.length, ownM m i k⟩, 0) := by
  unfold fN at h
  obtain ⟨y, hy, rfl⟩ := List.mem_map.1 h
  obtain ⟨n, hn⟩ := List.getElem?_of_mem hy
  obtain ⟨h1, h2⟩ := zip_inv hn
  exact ⟨y.1, y.2, by rw [h2]; exact h1, rfl⟩

theorem fTs_pw (j : Nat) (m : Int) : ∀ (l : List (Itm × Nat)), l.Pairwise (fun x y => x.2 ≠ y.2) → (fTs j m l).Pairwise (fun a b => a.1.col ≠ b.1.col)
  | [], _ => by simp [fTs]
  | x :: l, h => by
    rw [List.pairwise_cons] at h
    have e : fTs j m (x :: l) = fT j x.2 m x.1.chgs ++ fTs j m l := by simp [fTs]
    rw [e, List.pairwise_append]
    refine ⟨fT_pw _ _ _ _, fTs_pw j m l h.2, fun a ha b hb => ?_⟩
    obtain ⟨t, k, _, rfl⟩ := fT_mem ha
    unfold fTs at hb
    obtain ⟨y, hy, hb⟩ := List.mem_flatMap.1 hb
    obtain ⟨t', k', _, rfl⟩ := fT_mem hb
    intro e
    injection e with _ _ e
    exact h.1 y hy e
theorem fNs_pw (j : Nat) (m : Int) : ∀ (l : List (Itm × Nat)), l.Pairwise (fun x y => x.2 ≠ y.2) → (fNs j m l).Pairwise (fun a b => a.1.col ≠ b.1.col)
  | [], _ => by simp [fNs]
  | x :: l, h => by
    rw [List.pairwise_cons] at h
    have e : fNs j m (x :: l) = fN j x.2 m x.1.prts ++ fNs j m l := by simp [fNs]
    rw [e, List.pairwise_append]
    refine ⟨fN_pw _ _ _ _, fNs_pw j m l h.2, fun a ha b hb => ?_⟩
    obtain ⟨t, k, _, rfl⟩ := fN_mem ha
    unfold fNs at hb
    obtain ⟨y, hy, hb⟩ := List.mem_flatMap.1 hb
    obtain ⟨t', k', _, rfl⟩ := fN_mem hb
    intro e
    injection e with _ _ e
    exact h.1 y hy e

theorem nd_of {es : List (Ent × Nat)} (h : es.Pairwise (fun a b => a.1.col ≠ b.1.col)) : ∀ (i k : Nat) a b, (es.map (·.1))[i]? = some a → (es.map (·.1))[k]? = some b → i ≠ k → a.col ≠ b.col := by
  intro i k a b ha hb hik
  rw [List.getElem?_map] at ha hb
  obtain ⟨x, hx, rfl⟩ := Option.map_eq_some_iff.1 ha
  obtain ⟨y, hy, rfl⟩ := Option.map_eq_some_iff.1 hb
  rw [List.pairwise_iff_getElem] at h
  obtain ⟨i1, i2⟩ := List.getElem?_eq_some_iff.1 hx
  obtain ⟨k1, k2⟩ := List.getElem?_eq_some_iff.1 hy
  rcases Nat.lt_or_gt_of_ne hik with hlt | hlt
  · have := h i k i1 k1 hlt
    rwa [i2, k2] at this
  · have := h k i k1 i1 hlt
    rw [i2, k2] at this
    exact fun e => this e.symm

theorem mc_base {es : List (Ent × Nat)} (h : ∀ x ∈ es, x.2 = 0) : es = mc (es.map (·.1)) (gq 0) := by
  apply List.ext_getElem?
  intro n
  unfold mc
  rw [List.getElem?_map, List.getElem?_zipIdx, List.getElem?_map]
  cases hn : es[n]? with
  | none => rfl
  | some x =>
    have := h x (List.mem_of_getElem? hn)
    simp only [Option.map_some, gq]
    congr 1
    rw [show (if 0 + n < 64 then 0 else min 0 2) = 0 by split <;> simp, ← this]

def bsC (j m : Nat) (items : List Itm) : List Ent := (fC j m items).map (·.1)
def bsP (j m : Nat) (items : List Itm) : List Ent := (fP j m items).map (·.1)
def bsT (j m : Nat) (items : List Itm) : List Ent := (fTs j m items.zipIdx).map (·.1)
def bsN (j m : Nat) (items : List Itm) : List Ent := (fNs j m items.zipIdx).map (·.1)

theorem own_bnd {m i k : Int} (hm : 0 ≤ m ∧ m ≤ 1000) (hi : 0 ≤ i ∧ i ≤ 32) (hk : 0 ≤ k ∧ k ≤ 9999) : 0 ≤ ownM m i k ∧ ownM m i k ≤ 2000000000 := by unfold ownM; omega

theorem bsC_base {j m : Nat} {items : List Itm} (few : FewI items) (hm : m ≤ 1000) : Base j 1 (bsC j m items) := by
  obtain ⟨f1, f2⟩ := few
  refine ⟨by simp [bsC, fC]; omega, ?_, nd_of (fC_pw _ _ _), ?_⟩
  · intro e he
    unfold bsC fC at he
    rw [List.map_map] at he
    obtain ⟨y, hy, rfl⟩ := List.mem_map.1 he
    exact ⟨_, _, rfl⟩
  · intro e he
    unfold bsC fC at he
    rw [List.map_map] at he
    obtain ⟨y, hy, rfl⟩ := List.mem_map.1 he
    obtain ⟨n, hn⟩ := List.getElem?_of_mem hy
    obtain ⟨h1, h2⟩ := zip_inv hn
    have h3 := (List.getElem?_eq_some_iff.1 h1).1
    obtain ⟨b1, b2⟩ := own_bnd (m := m) (i := (y.2 : Int)) (k := 9999) (by omega) (by omega) (by omega)
    exact ⟨b1, b2, (f2 y.1 (List.mem_of_getElem? h1)).1⟩
theorem bsP_base {j m : Nat} {items : List Itm} (few : FewI items) (hm : m ≤ 1000) : Base j 2 (bsP j m items) := by
  obtain ⟨f1, f2⟩ := few
  refine ⟨by simp [bsP, fP]; omega, ?_, nd_of (fP_pw _ _ _), ?_⟩
  · intro e he
    unfold bsP fP at he
    rw [List.map_map] at he
    obtain ⟨y, hy, rfl⟩ := List.mem_map.1 he
    exact ⟨_, _, rfl⟩
  · intro e he
    unfold bsP fP at he
    rw [List.map_map] at he
    obtain ⟨y, hy, rfl⟩ := List.mem_map.1 he
    obtain ⟨n, hn⟩ := List.getElem?_of_mem hy
    obtain ⟨h1, h2⟩ := zip_inv hn
    have h3 := (List.getElem?_eq_some_iff.1 h1).1
    obtain ⟨b1, b2⟩ := own_bnd (m := m) (i := (y.2 : Int)) (k := 9999) (by omega) (by omega) (by omega)
    exact ⟨b1, b2, (f2 y.1 (List.mem_of_getElem? h1)).2.2.1⟩
theorem bsT_mem {j m : Nat} {items : List Itm} {e : Ent} (he : e ∈ bsT j m items) : ∃ (x : Itm) (i : Nat) (t : Tgd) (k : Nat), items[i]? = some x ∧ x.chgs[k]? = some t ∧ e = ⟨.ans j 3 i k, t.tags.length, ownM m i k⟩ := by
  unfold bsT fTs at he
  obtain ⟨y, hy, rfl⟩ := List.mem_map.1 he
  obtain ⟨z, hz, hy⟩ := List.mem_flatMap.1 hy
  obtain ⟨t, k, ht, rfl⟩ := fT_mem hy
  obtain ⟨n, hn⟩ := List.getElem?_of_mem hz
  obtain ⟨h1, h2⟩ := zip_inv hn
  exact ⟨z.1, z.2, t, k, by rw [h2]; exact h1, ht, rfl⟩
theorem bsN_mem {j m : Nat} {items : List Itm} {e : Ent} (he : e ∈ bsN j m items) : ∃ (x : Itm) (i : Nat) (t : Prt) (k : Nat), items[i]? = some x ∧ x.prts[k]? = some t ∧ e = ⟨.ans j 4 i k, t.nodes.length, ownM m i k⟩ := by
  unfold bsN fNs at he
  obtain ⟨y, hy, rfl⟩ := List.mem_map.1 he
  obtain ⟨z, hz, hy⟩ := List.mem_flatMap.1 hy
  obtain ⟨t, k, ht, rfl⟩ := fN_mem hy
  obtain ⟨n, hn⟩ := List.getElem?_of_mem hz
  obtain ⟨h1, h2⟩ := zip_inv hn
  exact ⟨z.1, z.2, t, k, by rw [h2]; exact h1, ht, rfl⟩
theorem bsT_base {j m : Nat} {items : List Itm} (few : FewI items) (hm : m ≤ 1000) : Base j 3 (bsT j m items) := by
  obtain ⟨f1, f2⟩ := few
  refine ⟨?_, ?_, nd_of (fTs_pw _ _ _ (zip_pw _)), ?_⟩
  · unfold bsT
    rw [List.length_map]
    have := flat_len (fun y : Itm × Nat => fT j y.2 m y.1.chgs) 24 items.zipIdx (fun y hy => by
      rw [fT_len]
      obtain ⟨n, hn⟩ := List.getElem?_of_mem hy
      exact (f2 y.1 (List.mem_of_getElem? (zip_inv hn).1)).1)
    rw [List.length_zipIdx] at this
    unfold fTs
    omega
  · intro e he
    obtain ⟨x, i, t, k, _, _, rfl⟩ := bsT_mem he
    exact ⟨_, _, rfl⟩
  · intro e he
    obtain ⟨x, i, t, k, hx, ht, rfl⟩ := bsT_mem he
    obtain ⟨g1, g2, _⟩ := f2 x (List.mem_of_getElem? hx)
    have h3 := (List.getElem?_eq_some_iff.1 hx).1
    have h4 := (List.getElem?_eq_some_iff.1 ht).1
    obtain ⟨b1, b2⟩ := own_bnd (m := m) (i := (i : Int)) (k := (k : Int)) (by omega) (by omega) (by omega)
    exact ⟨b1, b2, g2 t (List.mem_of_getElem? ht)⟩
theorem bsN_base {j m : Nat} {items : List Itm} (few : FewI items) (hm : m ≤ 1000) : Base j 4 (bsN j m items) := by
  obtain ⟨f1, f2⟩ := few
  refine ⟨?_, ?_, nd_of (fNs_pw _ _ _ (zip_pw _)), ?_⟩
  · unfold bsN
    rw [List.length_map]
    have := flat_len (fun y : Itm × Nat => fN j y.2 m y.1.prts) 24 items.zipIdx (fun y hy => by
      rw [fN_len]
      obtain ⟨n, hn⟩ := List.getElem?_of_mem hy
      exact (f2 y.1 (List.mem_of_getElem? (zip_inv hn).1)).2.2.1)
    rw [List.length_zipIdx] at this
    unfold fNs
    omega
  · intro e he
    obtain ⟨x, i, t, k, _, _, rfl⟩ := bsN_mem he
    exact ⟨_, _, rfl⟩
  · intro e he
    obtain ⟨x, i, t, k, hx, ht, rfl⟩ := bsN_mem he
    obtain ⟨_, _, g1, g2⟩ := f2 x (List.mem_of_getElem? hx)
    have h3 := (List.getElem?_eq_some_iff.1 hx).1
    have h4 := (List.getElem?_eq_some_iff.1 ht).1
    obtain ⟨b1, b2⟩ := own_bnd (m := m) (i := (i : Int)) (k := (k : Int)) (by omega) (by omega) (by omega)
    exact ⟨b1, b2, g2 t (List.mem_of_getElem? ht)⟩

theorem fC_mc (j m : Nat) (items : List Itm) : fC j m items = mc (bsC j m items) (gq 0) := mc_base (fun x hx => by unfold fC at hx; obtain ⟨y, _, rfl⟩ := List.mem_map.1 hx; rfl)
theorem fP_mc (j m : Nat) (items : List Itm) : fP j m items = mc (bsP j m items) (gq 0) := mc_base (fun x hx => by unfold fP at hx; obtain ⟨y, _, rfl⟩ := List.mem_map.1 hx; rfl)
theorem fT_mc (j m : Nat) (items : List Itm) : fTs j m items.zipIdx = mc (bsT j m items) (gq 0) := mc_base (fun x hx => by
  unfold fTs at hx
  obtain ⟨z, _, hx⟩ := List.mem_flatMap.1 hx
  obtain ⟨t, k, _, rfl⟩ := fT_mem hx; rfl)
theorem fN_mc (j m : Nat) (items : List Itm) : fNs j m items.zipIdx = mc (bsN j m items) (gq 0) := mc_base (fun x hx => by
  unfold fNs at hx
  obtain ⟨z, _, hx⟩ := List.mem_flatMap.1 hx
  obtain ⟨t, k, _, rfl⟩ := fN_mem hx; rfl)

end Go.Proofs.Ytkkagpchcefidaa

/- QueueOwn: kept. -/
set_option linter.unusedSimpArgs false
set_option linter.unusedVariables false
namespace Go.Proofs.Ytkkagpchcefidaa
open Go.Ev

/-- An entry, as it is read. -/
def EntS (ok : Nat → Prop) (w : Nat) (R1 : Int → List Value → Prop) (R2 : Int → Nat → List Value → Prop) (g : H) (cs : List Value) (x : Ent × Nat) : Prop :=
  ∃ v, cs = [v, .int .i64 x.1.n, .int .i64 x.1.mr] ∧ SlR ok w PrC g v (List.replicate x.1.n (R1 x.1.mr) ++ (List.range x.2).map (R2 x.1.mr))

/-- A book of marked lists, as it is read. -/
structure Book (ok : Nat → Prop) (g : H) (m nL : Nat) (bC bP bT bN : List Ent) (L G C P T N : Value) : Prop where
  lc : SlR ok 5 PrC g L (List.replicate nL (R1i m))
  gc : SlR ok 5 PrC g G (List.replicate nL (R1i m) ++ (List.range 64).map (R2i m))
  cc : SlR ok 3 (EntS ok 5 R1c R2c) g C (mc bC (gq 64))
  pc : SlR ok 3 (EntS ok 5 R1p R2p) g P (mc bP (gq 64))
  tc : SlR ok 3 (EntS ok 1 R1t R2t) g T (mc bT (gq 64))
  nc : SlR ok 3 (EntS ok 3 R1n R2n) g N (mc bN (gq 64))

def inAns (κ : Kp) (j : Nat) : Nat → Prop := fun c => ∃ kd i k, κ c = .ans j kd i k

theorem EntS.tr {κ κ' : Kp} {S : Col → Prop} {j w : Nat} {R1 : Int → List Value → Prop} {R2 : Int → Nat → List Value → Prop} {g g' : H} {cs : List Value} {x : Ent × Nat} (s : EntS (inAns κ j) w R1 R2 g cs x) (k : Ch κ S g g') (hS : ∀ kd i m, ¬ S (.ans j kd i m)) (hk : Agr g.size κ κ') : EntS (inAns κ' j) w R1 R2 g' cs x := by
  obtain ⟨v, e, b⟩ := s
  exact ⟨v, e, b.imp (fun c hc ⟨kd, i, m, q⟩ => ⟨kd, i, m, (hk c hc).trans q⟩) (fun _ _ _ q => q) (fun c cs ⟨kd, i, m, q⟩ e => k.cel e (by rw [q]; exact hS _ _ _))⟩

theorem Book.tr {κ κ' : Kp} {S : Col → Prop} {j : Nat} {g g' : H} {m nL : Nat} {bC bP bT bN : List Ent} {L G C P T N : Value} (s : Book (inAns κ j) g m nL bC bP bT bN L G C P T N) (k : Ch κ S g g') (hS : ∀ kd i m, ¬ S (.ans j kd i m)) (hk : Agr g.size κ κ') : Book (inAns κ' j) g' m nL bC bP bT bN L G C P T N := by
  have h1 : ∀ c, c < g.size → inAns κ j c → inAns κ' j c := fun c hc ⟨kd, i, m, q⟩ => ⟨kd, i, m, (hk c hc).trans q⟩
  have h3 : ∀ c cs, inAns κ j c → cel g c = some cs → cel g' c = some cs := fun c cs ⟨kd, i, m, q⟩ e => k.cel e (by rw [q]; exact hS _ _ _)
  exact ⟨s.lc.imp h1 (fun _ _ _ q => q) h3, s.gc.imp h1 (fun _ _ _ q => q) h3, s.cc.imp h1 (fun _ _ _ q => q.tr k hS hk) h3, s.pc.imp h1 (fun _ _ _ q => q.tr k hS hk) h3, s.tc.imp h1 (fun _ _ _ q => q.tr k hS hk) h3, s.nc.imp h1 (fun _ _ _ q => q.tr k hS hk) h3⟩

theorem EntC.s {κ : Kp} {j w : Nat} {R1 : Int → List Value → Prop} {R2 : Int → Nat → List Value → Prop} {g : H} {cs : List Value} {x : Ent × Nat} (s : EntC κ w R1 R2 g cs x) (hk : ∃ kd i k, x.1.col = .ans j kd i k) : EntS (inAns κ j) w R1 R2 g cs x := by
  obtain ⟨v, e, b⟩ := s
  obtain ⟨kd, i, k, hk⟩ := hk
  exact ⟨v, e, b.sl.imp (fun c _ q => ⟨kd, i, k, q.trans hk⟩) (fun _ _ _ q => q) (fun _ _ _ q => q)⟩

def KeptP (κ : Kp) (j m : Nat) (items : List Itm) (g : H) (u : Value) (h' : H) : Prop :=
  ∃ κ' L G C P T N, u = .agg ⟨[L, G, C, P, T, N, .int .i64 m]⟩ ∧ [L, G, C, P, T, N].all oneCell = true ∧ Agr g.size κ κ' ∧ Ch κ (own j) g h' ∧ Book (inAns κ' j) h' m items.length (bsC j m items) (bsP j m items) (bsT j m items) (bsN j m items) L G C P T N

theorem a55_cut : a55 = ⟨159, (.seq (.region r55_0 [0, 1, 4]) (.seq (.region r55_1 [1, 4, 5]) (.seq (.seq (.region r55_2 [1, 4, 5, 6]) (.block 0 (.loop [1, 4, 5, 6] l55_22))) (.seq (.region r55_23 [4]) .ret)))), [.cellN 4 7]⟩ := rfl
theorem l55_22_cut : l55_22 = (.seq (.seq (.region r55_3 [1, 4, 5, 6, 14]) (.cond (.tmp 14) .skip (.exit 0))) (.seq (.block 1 (.seq (.region r55_4 [1, 4, 5, 6]) (.seq cpGrow (.seq tgGrow ndGrow)))) (.region r55_21 [1, 4, 5, 6]))) := rfl

set_option maxHeartbeats 4000000 in
theorem kept_spec {F : Nat} (hF : 30000 ≤ F) {κ : Kp} {j m : Nat} {g : H} {v0 : Value} {items : List Itm} (hm : m ≤ 1000) (few : FewI items) (s : BldA (fun c => κ c = .ans j 0 0 0) 5 (ItmO κ j) g v0 items.zipIdx) :
    Ans (cf F 55 [v0, .int .i64 m] g) (KeptP κ j m items g) := by
  generalize hQ : KeptP κ j m items g = Q
  obtain ⟨F, rfl⟩ : ∃ G, F = G + 1 := ⟨F - 1, by omega⟩
  rw [cf_step (a := a55) rfl rfl (by simp [a55])]
  have o0 := s.sl.one
  have w0 := s.sl.vc
  have ho0 := o0
  simp only [oneCell] at o0
  simp only [vcells] at w0
  simp (disch := first | omega | (simp only [newRow_size, Array.size_setIfInBounds, Array.size_push]; done) | (simp only [newRow_size, Array.size_setIfInBounds, Array.size_push]; omega)) [a55_cut, r55_0, r55_1, o0, w0]
  obtain ⟨z4, hz4, hz4l⟩ : ∃ z4 : List Value, z4 = [.slice none 0 0, .slice none 0 0, .slice none 0 0, .slice none 0 0, .slice none 0 0, .slice none 0 0, .int .i64 0] ∧ z4.length = 7 := ⟨_, rfl, rfl⟩
  have hz : ∀ z : List Value, (Ev.newRow g z 0 []).size = g.size + 1 := fun z => by simp
  have hs4 : ∀ z : List Value, hget (Ev.newRow g z 0 []) g.size = some (.cells z 0 true []) := fun z => by simp
  have hk0 : ∀ z : List Value, Kept g (Ev.newRow g z 0 []) [] := fun z => rowKept g z 0 []
  rw [← hz4]
  have hz := hz z4
  have hs4 := hs4 z4
  have hk0 := hk0 z4
  generalize Ev.newRow g z4 0 [] = g0 at hz hs4 hk0 ⊢
  have a0 : Agr g.size κ (ext κ g.size .old) := Agr.ext (Nat.le_refl _)
  have c4 : ext κ g.size .old g.size = .old := ext_ge (Nat.le_refl _)
  generalize ext κ g.size .old = κ0 at a0 c4
  have s0 := s.tr (R2 := ItmO κ0 j) (Ch.of (S := no) hk0) (by simp [no]) a0 (fun cs n y hy q => q.tr (Ch.of (S := no) hk0) (by simp [no]) a0)
  refine Ans.next (full_spec (F := F) (by omega) hm few s0) ?_
  rintro u1 g1 ⟨κ1, C, P, T, N, rfl, a1, ch1, bI, fa, oC, oP, oT, oN⟩
  have y1 := ch1.1
  have hs41 := ch1.get hs4 (by rw [c4]; simp [own])
  have hoC := oC
  have hoP := oP
  have hoT := oT
  have hoN := oN
  simp only [oneCell] at oC oP oT oN
  have hz4d : List.drop 7 z4 = [] := List.drop_of_length_le (by omega)
  simp (disch := first | omega | (simp only [newRow_size, Array.size_setIfInBounds, Array.size_push]; done) | (simp only [newRow_size, Array.size_setIfInBounds, Array.size_push]; omega)) [r55_2, o0, oC, oP, oT, oN, hz4l, hz4d]
  have k2 := rowKept g1 [v0, v0, C, P, T, N, .int .i64 m] 0 []
  have hkb : hget (Ev.newRow g1 [v0, v0, C, P, T, N, .int .i64 m] 0 []) g1.size = some (.cells [v0, v0, C, P, T, N, .int .i64 m] 0 true []) := by simp
  have hz2 : (Ev.newRow g1 [v0, v0, C, P, T, N, .int .i64 m] 0 []).size = g1.size + 1 := by simp
  generalize Ev.newRow g1 [v0, v0, C, P, T, N, .int .i64 m] 0 [] = g2 at k2 hkb hz2 ⊢
  have a2 : Agr g1.size κ1 (ext κ1 g1.size (.bk 1)) := Agr.ext (Nat.le_refl _)
  have c5 : ext κ1 g1.size (.bk 1) g1.size = .bk 1 := ext_ge (Nat.le_refl _)
  generalize ext κ1 g1.size (.bk 1) = κ2 at a2 c5
  have C2 : Ch κ1 no g1 g2 := Ch.of k2
  have bcB := bsC_base (j := j) few hm
  have bpB := bsP_base (j := j) few hm
  have btB := bsT_base (j := j) few hm
  have bnB := bsN_base (j := j) few hm
  have hlen : (bsP j m items).length = (bsC j m items).length := by simp [bsP, bsC, fP, fC]
  have fb2 : FB κ2 j g2 g1.size v0 v0 C P T N m (mc (bsC j m items) (gq 0)) (mc (bsP j m items) (gq 0)) (mc (bsT j m items) (gq 0)) (mc (bsN j m items) (gq 0)) := by
    rw [← fC_mc, ← fP_mc, ← fT_mc, ← fN_mc]
    exact ⟨hkb, c5, fa.bC.ents C2 (by simp [no]) (by simp [no]) a2, fa.bP.ents C2 (by simp [no]) (by simp [no]) a2, fa.bT.ents C2 (by simp [no]) (by simp [no]) a2, fa.bN.ents C2 (by simp [no]) (by simp [no]) a2⟩
  have gl2 : BldA (fun c => κ2 c = .ans j 0 0 0) 5 PrC g2 v0 (List.replicate items.length (R1i m) ++ (List.range 0).map (R2i m)) := by
    have := bI.tr (R2 := PrC) C2 (by simp [no]) a2 (fun _ _ _ _ q => q)
    simpa using this
  have lc2 : SlR (fun c => κ2 c = .ans j 0 0 0) 5 PrC g2 v0 (List.replicate items.length (R1i m)) := by simpa using gl2.sl
  have cc : Ch κ0 (own j) g0 g2 := ch1.trans (C2.weak (fun _ h => h.elim)) a1
  obtain ⟨few1, few2⟩ := few
  refine loop_rule (fun mm e g' => ∃ (q : Nat) (κ' : Kp) (G : Value), mm = 64 - q ∧ q ≤ 64 ∧ e = [(1, .int .i64 m), (4, .pointer (some ⟨g.size, 0, none⟩)), (5, .pointer (some ⟨g1.size, 0, none⟩)), (6, .int .i64 q)] ∧
      FB κ' j g' g1.size v0 G C P T N m (mc (bsC j m items) (gq q)) (mc (bsP j m items) (gq q)) (mc (bsT j m items) (gq q)) (mc (bsN j m items) (gq q)) ∧ BldA (fun c => κ' c = .ans j 0 0 0) 5 PrC g' G (List.replicate items.length (R1i m) ++ (List.range q).map (R2i m)) ∧
      SlR (fun c => κ' c = .ans j 0 0 0) 5 PrC g' v0 (List.replicate items.length (R1i m)) ∧ Agr g2.size κ2 κ' ∧ Ch κ2 (own j) g2 g') ?_ F 64 _ _ (by omega)
    ⟨0, κ2, v0, by omega, by omega, rfl, fb2, gl2, lc2, Agr.refl _ _, Ch.refl _ _ _⟩
  clear fb2 gl2 lc2
  rintro mm e g' again ⟨q, κ', G, rfl, hq, rfl, fb, gl, lc, ag, ch⟩ ih
  have hw : IntKind.i64.wrap ((q : Int) + 1) = ((q + 1 : Nat) : Int) := by rw [IntKind.wrap_i64]; omega
  have hw' : IntKind.i64.wrap ((q : Int) + 1) = (q : Int) + 1 := by rw [hw]; omega
  have yg := ch.1
  have hkb' := fb.kbc
  have hkbs := lt_of_get hkb'
  by_cases hlt : q < 64
  · have hqc : (q : Int) < 64 := by omega
    simp (disch := first | omega | (simp only [newRow_size, Array.size_setIfInBounds, Array.size_push]; done) | (simp only [newRow_size, Array.size_setIfInBounds, Array.size_push]; omega)) [l55_22_cut, r55_3, hqc, eqT, eqF, neT, neF, ltT, ltF, leT, leF, nltT, nltF, nleT, nleF, nneT, nneF, List.getElem?_cons_zero, List.getElem?_cons_succ, r55_4, hkb', hw', srcOf]
    have a3 : Agr g'.size κ' (ext κ' g'.size (.ans j 0 0 0)) := Agr.ext (Nat.le_refl _)
    refine Ans.next (gl.app (R2 := PrC) (bytes := 72) (R2i m q) rfl (by simp; omega) (fun _ _ _ _ _ _ q => q) (fun _ _ => rfl)) ?_
    rintro G3 g3 ⟨gl3, c3, kc3⟩
    generalize ext κ' g'.size (.ans j 0 0 0) = κ3 at a3 gl3
    have oG := gl3.sl.one
    have vG := gl3.sl.vc
    simp only [oneCell] at oG
    simp only [vcells] at vG
    obtain ⟨q1, q2, q3, q4⟩ := kb_store (cs' := [v0, G3, C, P, T, N, .int .i64 m]) hkb' fb.kbk a3 c3 (by simp)
    have q1s := lt_of_get q1
    have y3 := c3.1
    simp (disch := first | omega | (simp only [newRow_size, Array.size_setIfInBounds, Array.size_push]; done) | (simp only [newRow_size, Array.size_setIfInBounds, Array.size_push]; omega)) [q1, oG, vG, q1s]
    have z3 : (g3.setIfInBounds g1.size (.cells [v0, G3, C, P, T, N, .int .i64 m] 0 true [])).size = g3.size := by simp
    generalize g3.setIfInBounds g1.size (.cells [v0, G3, C, P, T, N, .int .i64 m] 0 true []) = g4 at q2 q4 z3 ⊢
    have kC := bcB.kinds (gq q)
    have kP := bpB.kinds (gq q)
    have kT := btB.kinds (gq q)
    have kN := bnB.kinds (gq q)
    have ne : ∀ {kd : Nat} {es : List (Ent × Nat)}, Kinds j kd es → 0 < kd → ∀ x ∈ es, ¬ x.1.col = .ans j 0 0 0 := by
      intro kd es h hk x hx e
      obtain ⟨_, _, h'⟩ := h x hx
      rw [h'] at e; injection e with _ e; omega
    have nb : ∀ {kd : Nat} {es : List (Ent × Nat)}, Kinds j kd es → ∀ x ∈ es, ¬ x.1.col = .bk 1 := by
      intro kd es h x hx e
      obtain ⟨_, _, h'⟩ := h x hx
      rw [h'] at e; cases e
    have fb4 : FB κ3 j g4 g1.size v0 G3 C P T N m (mc (bsC j m items) (gq q)) (mc (bsP j m items) (gq q)) (mc (bsT j m items) (gq q)) (mc (bsN j m items) (gq q)) :=
      ⟨q4, q3, (fb.bC.ents c3 (by simp) (ne kC (by omega)) a3).ents q2 (by simp) (nb kC) (Agr.refl _ _), (fb.bP.ents c3 (by simp) (ne kP (by omega)) a3).ents q2 (by simp) (nb kP) (Agr.refl _ _), (fb.bT.ents c3 (by simp) (ne kT (by omega)) a3).ents q2 (by simp) (nb kT) (Agr.refl _ _), (fb.bN.ents c3 (by simp) (ne kN (by omega)) a3).ents q2 (by simp) (nb kN) (Agr.refl _ _)⟩
    have gl4 := gl3.tr (R2 := PrC) (κ' := κ3) q2 (by simp) (Agr.refl _ _) (fun _ _ _ _ q => q)
    have lc3 : SlR (fun c => κ3 c = .ans j 0 0 0) 5 PrC g3 v0 (List.replicate items.length (R1i m)) := lc.imp (fun c hc q => (a3 c hc).trans q) (fun _ _ _ q => q) (fun c cs _ e => (kc3.2 c (cel_lt e) (by simp)).trans e)
    have lc4 := lc3.trC (R2 := PrC) (κ' := κ3) q2 (by simp) (Agr.refl _ _) (fun _ _ _ q => q)
    refine cpGrow_spec (F := F) (by omega) fb4 bcB bpB hlen kT kN hlt ?_
    intro g5 κ5 e5 fb5 ag5 ch5
    have y5 := ch5.1
    refine tgGrow_spec (F := F) (by omega) fb5 btB (bcB.kinds _) (bpB.kinds _) kN hlt ?_
    intro g6 κ6 e6 fb6 ag6 ch6
    have y6 := ch6.1
    refine ndGrow_spec (F := F) (by omega) fb6 bnB (bcB.kinds _) (bpB.kinds _) (btB.kinds _) hlt ?_
    intro g7 κ7 e7 fb7 ag7 ch7
    have y7 := ch7.1
    simp (disch := first | omega | (simp only [newRow_size, Array.size_setIfInBounds, Array.size_push]; done) | (simp only [newRow_size, Array.size_setIfInBounds, Array.size_push]; omega)) [r55_21, hw]
    have n5 : ¬ (fun c => famS j 7 1 c ∨ famS j 8 2 c) (Col.ans j 0 0 0) := by simp [famS]
    have n6 : ¬ famS j 5 3 (Col.ans j 0 0 0) := by simp [famS]
    have n7 : ¬ famS j 6 4 (Col.ans j 0 0 0) := by simp [famS]
    have gl7 := ((gl4.tr (R2 := PrC) ch5 n5 ag5 (fun _ _ _ _ q => q)).tr (R2 := PrC) ch6 n6 ag6 (fun _ _ _ _ q => q)).tr (R2 := PrC) ch7 n7 ag7 (fun _ _ _ _ q => q)
    have lc7 := ((lc4.trC (R2 := PrC) ch5 n5 ag5 (fun _ _ _ q => q)).trC (R2 := PrC) ch6 n6 ag6 (fun _ _ _ q => q)).trC (R2 := PrC) ch7 n7 ag7 (fun _ _ _ q => q)
    have d1 : Ch κ' (own j) g' g3 := c3.weak (fun c h => .inr ⟨_, _, _, h⟩)
    have d2 : Ch κ3 (own j) g3 g4 := q2.weak (fun c h => .inl h)
    have f1 : ∀ kd kr c, famS j kd kr c → own j c := fun kd kr c h => by
      rcases h with h | ⟨i, k, h⟩
      · exact .inr ⟨_, _, _, h⟩
      · exact .inr ⟨_, _, _, h⟩
    have d5 : Ch κ3 (own j) g4 g5 := ch5.weak (fun c h => by rcases h with h | h <;> exact f1 _ _ c h)
    have d6 : Ch κ5 (own j) g5 g6 := ch6.weak (f1 _ _)
    have d7 : Ch κ6 (own j) g6 g7 := ch7.weak (f1 _ _)
    refine ih (64 - (q + 1)) _ _ (by omega) ⟨q + 1, κ7, G3, rfl, by omega, rfl, fb7, ?_, lc7, ag.trans (a3.trans (ag5.trans (ag6.trans ag7 y6) y5) (by omega)) yg, ch.trans (d1.trans (d2.trans (d5.trans (d6.trans d7 ag6) ag5) (fun c hc => rfl)) a3) ag⟩
    rw [List.range_succ, List.map_append, ← List.append_assoc]
    exact gl7
  · have hq64 : q = 64 := by omega
    subst hq64
    have h4 := ch.get (k2.get (by omega) (by simp) |>.trans hs41) (by
      rw [a2 g.size (by omega), a1 g.size (by omega), c4]; simp [own])
    have h4s := lt_of_get h4
    have oG := gl.sl.one
    have hoG := oG
    simp only [oneCell] at oG
    simp (disch := first | omega | (simp only [newRow_size, Array.size_setIfInBounds, Array.size_push]; done) | (simp only [newRow_size, Array.size_setIfInBounds, Array.size_push]; omega)) [l55_22_cut, r55_3, eqT, eqF, neT, neF, ltT, ltF, leT, leF, nltT, nltF, nleT, nleF, nneT, nneF, List.getElem?_cons_zero, List.getElem?_cons_succ, r55_23, hkb', h4, hz4l, o0, oG, oC, oP, oT, oN, h4s]
    have cS0 : ∀ c, c ≠ g.size → hget (Array.setIfInBounds g' g.size (.cells (v0 :: G :: C :: P :: T :: N :: .int .i64 m :: List.drop 7 z4) 0 true [])) c = hget g' c := fun c hc => set_other (fun e => hc e.symm)
    have cS : Ch κ' (· = .old) g' (Array.setIfInBounds g' g.size (.cells (v0 :: G :: C :: P :: T :: N :: .int .i64 m :: List.drop 7 z4) 0 true [])) := ⟨by simp, fun c hc hn => set_other (fun e => hn (by rw [← e]; show κ' g.size = .old; rw [ag _ (by omega), a2 _ (by omega), a1 _ (by omega)]; exact c4))⟩
    have zS : (Array.setIfInBounds g' g.size (.cells (v0 :: G :: C :: P :: T :: N :: .int .i64 m :: List.drop 7 z4) 0 true [])).size = g'.size := by simp
    generalize Array.setIfInBounds g' g.size (.cells (v0 :: G :: C :: P :: T :: N :: .int .i64 m :: List.drop 7 z4) 0 true []) = gF at cS zS cS0 ⊢
    subst hQ
    refine Ans.of ⟨κ', v0, G, C, P, T, N, rfl, ?_, ?_, ⟨by omega, fun c hc hn => ?_⟩, ?_⟩
    · simp only [List.all_cons, List.all_nil, ho0, hoG, hoC, hoP, hoT, hoN, Bool.and_true]
    · exact a0.trans (a1.trans (a2.trans ag (by omega)) (by omega)) (by omega)
    · have h2 : κ2 c = κ c := by rw [a2 c (by omega), a1 c (by omega), a0 c hc]
      rw [cS0 c (by omega), ch.2 c (by omega) (by rw [h2]; exact hn), k2.get (by omega) (by simp), ch1.2 c (by omega) (by rw [a0 c hc]; exact hn), hk0.get hc (by simp)]
    · have b : Book (inAns κ' j) g' m items.length (bsC j m items) (bsP j m items) (bsT j m items) (bsN j m items) v0 G C P T N :=
        ⟨lc.imp (fun c _ q => ⟨_, _, _, q⟩) (fun _ _ _ q => q) (fun _ _ _ q => q), gl.sl.imp (fun c _ q => ⟨_, _, _, q⟩) (fun _ _ _ q => q) (fun _ _ _ q => q),
          fb.bC.sl.imp (fun c _ q => ⟨_, _, _, q⟩) (fun _ x hx q => q.s (by obtain ⟨a, b, h⟩ := bcB.kinds _ x hx; exact ⟨_, a, b, h⟩)) (fun _ _ _ q => q),
          fb.bP.sl.imp (fun c _ q => ⟨_, _, _, q⟩) (fun _ x hx q => q.s (by obtain ⟨a, b, h⟩ := bpB.kinds _ x hx; exact ⟨_, a, b, h⟩)) (fun _ _ _ q => q),
          fb.bT.sl.imp (fun c _ q => ⟨_, _, _, q⟩) (fun _ x hx q => q.s (by obtain ⟨a, b, h⟩ := btB.kinds _ x hx; exact ⟨_, a, b, h⟩)) (fun _ _ _ q => q),
          fb.bN.sl.imp (fun c _ q => ⟨_, _, _, q⟩) (fun _ x hx q => q.s (by obtain ⟨a, b, h⟩ := bnB.kinds _ x hx; exact ⟨_, a, b, h⟩)) (fun _ _ _ q => q)⟩
      exact b.tr cS (by simp) (Agr.refl _ _)

end Go.Proofs.Ytkkagpchcefidaa

/- QueueOwn: lists. -/
set_option linter.unusedSimpArgs false
set_option linter.unusedVariables false
namespace Go.Proofs.Ytkkagpchcefidaa
open Go.Ev

theorem EntS.kc {ok : Nat → Prop} {w : Nat} {R1 : Int → List Value → Prop} {R2 : Int → Nat → List Value → Prop} {g g' : H} {cs : List Value} {x : Ent × Nat} (s : EntS ok w R1 R2 g cs x) (k : KeptC g g' []) : EntS ok w R1 R2 g' cs x := by
  obtain ⟨v, e, b⟩ := s
  exact ⟨v, e, b.kc k (by simp) (fun _ _ _ q => q)⟩

/-- Entries with small numbers. -/
def SmallE (es : List (Ent × Nat)) : Prop := es.length ≤ 10000 ∧ ∀ x ∈ es, 0 ≤ x.1.mr ∧ x.1.mr ≤ 2000000000 ∧ x.1.n ≤ 24 ∧ x.2 ≤ 64

theorem Base.small {j kd : Nat} {base : List Ent} (s : Base j kd base) : SmallE (mc base (gq 64)) := by
  refine ⟨by rw [mc_len]; exact s.len, fun x hx => ?_⟩
  obtain ⟨h1, h2, h3⟩ := s.mr _ (mc_mem hx)
  obtain ⟨i, hi⟩ := List.getElem?_of_mem hx
  have := (mc_inv hi).2
  have := gq_le 64 i
  exact ⟨h1, h2, h3, by omega⟩

/-- An element of a list that has been gone on from. -/
theorem gone_at {R1 : Int → List Value → Prop} {R2 : Int → Nat → List Value → Prop} {m : Int} {n c j : Nat} (hj : j < n + c) : (List.replicate n (R1 m) ++ (List.range c).map (R2 m))[j]? = some (if j < n then R1 m else R2 m (j - n)) := by
  by_cases h : j < n
  · rw [if_pos h, List.getElem?_append_left (by simpa using h), List.getElem?_replicate, if_pos h]
  · rw [if_neg h, List.getElem?_append_right (by simpa using h), List.length_replicate, List.getElem?_map, List.getElem?_range (by omega)]
    rfl
theorem gone_len {R1 : Int → List Value → Prop} {R2 : Int → Nat → List Value → Prop} {m : Int} {n c : Nat} : (List.replicate n (R1 m) ++ (List.range c).map (R2 m)).length = n + c := by simp

def lsT : ACode := (.seq (.region r66_1 [1, 3]) (.block 0 (.loop [1, 3] l66_11)))
def lsN : ACode := (.seq (.region r66_12 [1, 6]) (.block 4 (.loop [1, 6] l66_22)))

set_option maxHeartbeats 4000000 in
theorem lsT_spec {F : Nat} (hF : 20000 ≤ F) {ok : Nat → Prop} {g : H} {B : Nat} {L G C P T N : Value} {m : Int} {es : List (Ent × Nat)} (hB : hget g B = some (.cells [L, G, C, P, T, N, .int .i64 m] 0 true [])) (s : SlR ok 3 (EntS ok 1 R1t R2t) g T es) (sm : SmallE es) {re : Env}
    {kn kr : K} {ke : Nat → K} {Q : Value → H → Prop} (hkn : ∀ g' (e : Env), Kept g g' [] → Ans (kn ((1, .pointer (some ⟨B, 0, none⟩)) :: e) g' []) Q) :
    Ans (evC F (cf F) lsT kn ke kr ((1, .pointer (some ⟨B, 0, none⟩)) :: re) g []) Q := by
  obtain ⟨sm1, sm2⟩ := sm
  have hl := s.len
  simp (disch := first | omega | (simp only [newRow_size, Array.size_setIfInBounds, Array.size_push]; done) | (simp only [newRow_size, Array.size_setIfInBounds, Array.size_push]; omega)) [lsT, r66_1]
  refine loop_rule (fun mm e g' => ∃ (i : Nat), mm = es.length - i ∧ i ≤ es.length ∧ e = [(1, .pointer (some ⟨B, 0, none⟩)), (3, .int .i64 i)] ∧ Kept g g' []) ?_ _ es.length _ _ (by omega) ⟨0, by omega, by omega, rfl, Kept.refl _ _⟩
  rintro mm e g' again ⟨i, rfl, hi, rfl, kg⟩ ih
  have hw : IntKind.i64.wrap ((i : Int) + 1) = ((i + 1 : Nat) : Int) := by rw [IntKind.wrap_i64]; omega
  have hB' := (kg.get (lt_of_get hB) (by simp)).trans hB
  have hBs := lt_of_get hB'
  by_cases hlt : i < es.length
  · obtain ⟨x, hx⟩ : ∃ x, es[i]? = some x := ⟨_, List.getElem?_eq_getElem hlt⟩
    obtain ⟨m1, m2, m3, m4⟩ := sm2 x (List.mem_of_getElem? hx)
    have hic : (i : Int) < (es.length : Int) := by omega
    have s' := s.kc kg.c (by simp) (fun _ _ _ q => q.kc kg.c)
    obtain ⟨b, o, c, cs, est, lv, an, rfl, _, hg, hle, v, hrow, sv⟩ := s'.at' hx
    have ov := sv.one
    have lv' := sv.len
    rw [gone_len] at lv'
    simp only [oneCell] at ov
    have hgs := lt_of_get hg
    simp (disch := first | omega | (simp only [newRow_size, Array.size_setIfInBounds, Array.size_push]; done) | (simp only [newRow_size, Array.size_setIfInBounds, Array.size_push]; omega)) [l66_11, r66_2, hB', hic, eqT, eqF, neT, neF, ltT, ltF, leT, leF, nltT, nltF, nleT, nleF, nneT, nneF, List.getElem?_cons_zero, List.getElem?_cons_succ, r66_3, hg, hle, hrow, hlt, ov, r66_4]
    -- the entry copied
    have k1 := rowKept g' [v, .int .i64 x.1.n, .int .i64 x.1.mr] 0 []
    have h1 : hget (Ev.newRow g' [v, .int .i64 x.1.n, .int .i64 x.1.mr] 0 []) g'.size = some (.cells [v, .int .i64 x.1.n, .int .i64 x.1.mr] 0 true []) := by simp
    have z1 : (Ev.newRow g' [v, .int .i64 x.1.n, .int .i64 x.1.mr] 0 []).size = g'.size + 1 := by simp
    generalize Ev.newRow g' [v, .int .i64 x.1.n, .int .i64 x.1.mr] 0 [] = g1 at k1 h1 z1 ⊢
    have sv1 := sv.kc k1.c (by simp) (fun _ _ _ q => q)
    refine loop_rule (fun mm e g'' => ∃ (t : Nat), mm = x.1.n + x.2 - t ∧ t ≤ x.1.n + x.2 ∧ e = [(1, .pointer (some ⟨B, 0, none⟩)), (3, .int .i64 i), (4, .pointer (some ⟨g'.size, 0, none⟩)), (5, .int .i64 t)] ∧ Kept g1 g'' []) ?_ _ (x.1.n + x.2) _ _ (by omega) ⟨0, by omega, by omega, rfl, Kept.refl _ _⟩
    rintro mm e g'' again2 ⟨t, rfl, ht, rfl, kg2⟩ ih2
    have hw2 : IntKind.i64.wrap ((t : Int) + 1) = ((t + 1 : Nat) : Int) := by rw [IntKind.wrap_i64]; omega
    have hneg : IntKind.i64.wrap (0 - x.1.mr) = -x.1.mr := by rw [IntKind.wrap_i64]; omega
    have hneg' : IntKind.i64.wrap (-x.1.mr) = -x.1.mr := by rw [IntKind.wrap_i64]; omega
    have h1' := (kg2.get (lt_of_get h1) (by simp)).trans h1
    have h1s := lt_of_get h1'
    have sv2 := sv1.kc kg2.c (by simp) (fun _ _ _ q => q)
    by_cases hlt2 : t < x.1.n + x.2
    · obtain ⟨b2, o2, c2, cs2, est2, lv2, an2, e2, _, hg2, hle2, hr2⟩ := sv2.at' (gone_at (R1 := R1t) (R2 := R2t) (m := x.1.mr) hlt2)
      rw [gone_len] at e2
      have htc : (t : Int) < ((x.1.n + x.2 : Nat) : Int) := by omega
      subst e2
      by_cases hn : t < x.1.n
      · have hnc : (t : Int) < (x.1.n : Int) := by omega
        rw [if_pos hn] at hr2
        have hr2' : (cs2.drop (o2 + t * 1)).take 1 = [.int .i64 x.1.mr] := hr2
        rw [Nat.mul_one] at hr2' hle2
        simp (disch := first | omega | (simp only [newRow_size, Array.size_setIfInBounds, Array.size_push]; done) | (simp only [newRow_size, Array.size_setIfInBounds, Array.size_push]; omega)) [l66_9, r66_5, h1', htc, eqT, eqF, neT, neF, ltT, ltF, leT, leF, nltT, nltF, nleT, nleF, nneT, nneF, List.getElem?_cons_zero, List.getElem?_cons_succ, d66_6, hnc, hg2, hle2, hr2', hlt2, r66_8, hw2]
        exact ih2 (x.1.n + x.2 - (t + 1)) _ _ (by omega) ⟨t + 1, rfl, by omega, rfl, kg2⟩
      · have hnc : ¬ (t : Int) < (x.1.n : Int) := by omega
        rw [if_neg hn] at hr2
        have hr2' : (cs2.drop (o2 + t * 1)).take 1 = [.int .i64 (-x.1.mr)] := hr2
        rw [Nat.mul_one] at hr2' hle2
        simp (disch := first | omega | (simp only [newRow_size, Array.size_setIfInBounds, Array.size_push]; done) | (simp only [newRow_size, Array.size_setIfInBounds, Array.size_push]; omega)) [l66_9, r66_5, h1', htc, eqT, eqF, neT, neF, ltT, ltF, leT, leF, nltT, nltF, nleT, nleF, nneT, nneF, List.getElem?_cons_zero, List.getElem?_cons_succ, d66_6, hnc, hg2, hle2, hr2', hlt2, r66_8, hw2, hneg, hneg']
        exact ih2 (x.1.n + x.2 - (t + 1)) _ _ (by omega) ⟨t + 1, rfl, by omega, rfl, kg2⟩
    · have htt : t = x.1.n + x.2 := by omega
      subst htt
      have htc : ¬ ((x.1.n + x.2 : Nat) : Int) < ((x.1.n + x.2 : Nat) : Int) := by omega
      simp (disch := first | omega | (simp only [newRow_size, Array.size_setIfInBounds, Array.size_push]; done) | (simp only [newRow_size, Array.size_setIfInBounds, Array.size_push]; omega)) [l66_9, r66_5, h1', lv', htc, eqT, eqF, neT, neF, ltT, ltF, leT, leF, nltT, nltF, nleT, nleF, nneT, nneF, List.getElem?_cons_zero, List.getElem?_cons_succ, r66_10, hw]
      exact ih (es.length - (i + 1)) _ _ (by omega) ⟨i + 1, rfl, by omega, rfl, kg.trans (k1.trans kg2)⟩
  · have hii : i = es.length := by omega
    subst hii
    have hic : ¬ (es.length : Int) < (es.length : Int) := by omega
    simp (disch := first | omega | (simp only [newRow_size, Array.size_setIfInBounds, Array.size_push]; done) | (simp only [newRow_size, Array.size_setIfInBounds, Array.size_push]; omega)) [l66_11, r66_2, hB', hl, hic, eqT, eqF, neT, neF, ltT, ltF, leT, leF, nltT, nltF, nleT, nleF, nneT, nneF, List.getElem?_cons_zero, List.getElem?_cons_succ]
    exact hkn g' _ kg

end Go.Proofs.Ytkkagpchcefidaa
