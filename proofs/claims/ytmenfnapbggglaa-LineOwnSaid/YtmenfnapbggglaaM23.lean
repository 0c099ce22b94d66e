/- Several texts in one: Lf8, Lf9. -/
import Derived.Test.YtmenfnapbggglaaM22

/- LineOwn: held: in the end all is written full; held itself. -/
set_option linter.unusedSimpArgs false
set_option linter.unusedVariables false
namespace Go.Proofs.Ytmenfnapbggglaa
open Go.Ev

set_option maxHeartbeats 4000000 in
theorem hd4_spec {F : Nat} (hF : 200000 ≤ F) {s0 : Nat} {g : H} {lv : Value} {fl : Flight} {last : Int} {W : List Nat} {Z ZA ZW : Nat → Prop} {av wv : Value} {T : List HE} (st : HdS s0 g lv fl last W Z ZA ZW av wv T) (hT : T.length ≤ 123) {r : Env}
    {kn kr : K} {ke : Nat → K} {Q : Value → H → Prop}
    (hk : ∀ g' bv (ZB : Nat → Prop) xs (e : Env), SlR ZB 3 (KptC ZB) g' bv xs → xs.length ≤ 123 → (∀ x ∈ xs, x.1 ≤ 100000 ∧ -1000000 ≤ x.2 ∧ x.2 ≤ 0) → Ans (kn ((5, av) :: (14, bv) :: e) g' []) Q) :
    Ans (evC F (cf F) hd4 kn ke kr ((5, av) :: (14, .slice none 0 0) :: r) g []) Q := by
  have hla := st.ba.sl.len
  rw [List.length_map] at hla
  simp (disch := first | omega | (simp only [newRow_size, Array.size_setIfInBounds, Array.size_push]; done) | (simp only [newRow_size, Array.size_setIfInBounds, Array.size_push]; omega)) [hd4, r33_27]
  refine loop_rule (fun mm e g' => ∃ (i : Nat) (bv : Value) (ZB : Nat → Prop) (xs : List (Nat × Int)), mm = T.length - i ∧ i ≤ T.length ∧ e = [(5, av), (14, bv), (15, .int .i64 i)] ∧ Bld ZB 3 (KptC ZB) g' bv xs ∧ xs.length = i ∧ (∀ x ∈ xs, x.1 ≤ 100000 ∧ -1000000 ≤ x.2 ∧ x.2 ≤ 0) ∧ (∀ c, ZB c → c < g'.size) ∧ (∀ c, ZB c → ∀ x ∈ T.drop i, ¬ (x.lo ≤ c ∧ c < x.hi)) ∧ (∀ c, ZA c → ¬ ZB c) ∧ Bld ZA 1 ValC g' av (T.map (·.v)) ∧ (∀ x ∈ T.drop i, OwnI g' x.v x.ns x.lo) ∧ g.size ≤ g'.size) ?_ _ T.length _ _ (by omega) ⟨0, .slice none 0 0, fun _ => False, [], by omega, by omega, rfl, .inl ⟨rfl, rfl⟩, rfl, by simp, fun _ q => q.elim, fun _ q => q.elim, fun _ _ q => q, st.ba, fun x hx => (st.own x (List.mem_of_mem_drop hx)).1, Nat.le_refl _⟩
  rintro mm e g' again ⟨i, bv, ZB, xs, rfl, hi, rfl, bk, hxl, hxs, zblt, zbr, zab, ba, ow, zg⟩ ih
  have hw1 : IntKind.i64.wrap ((i : Int) + 1) = ((i + 1 : Nat) : Int) := by rw [wrap_id (by omega) (by omega)]; rfl
  by_cases hlt : i < T.length
  · have hic : (i : Int) < (T.length : Int) := by omega
    obtain ⟨x, hx⟩ : ∃ x, T[i]? = some x := ⟨_, List.getElem?_eq_getElem hlt⟩
    have hm := List.mem_of_getElem? hx
    have hdr : T.drop i = x :: T.drop (i + 1) := by
      rw [List.drop_eq_getElem_cons hlt]
      congr 1
      exact (List.getElem?_eq_some_iff.1 hx).2
    have hxd : x ∈ T.drop i := by rw [hdr]; simp
    have hdis : ∀ y ∈ T.drop (i + 1), x.hi ≤ y.lo := by
      have := st.dis.sublist (List.drop_sublist i T)
      rw [hdr, List.pairwise_cons] at this
      exact this.1
    have hrx := st.rng x hm
    obtain ⟨b, cs, es, lvv, an, e1, hb, hg, ha, hle⟩ := Bld.at1 ba (i := i) (x := x.v) (by rw [List.getElem?_map, hx]; rfl)
    rw [List.length_map] at e1
    have hgs := lt_of_get hg
    have hwA : IntKind.i64.wrap (-100 * (i : Int)) = -100 * (i : Int) := wrap_id (by omega) (by omega)
    have hwB : IntKind.i64.wrap (-100 * (i : Int) - 100) = -100 * (i : Int) - 100 := wrap_id (by omega) (by omega)
    rw [e1]
    simp (disch := first | omega | (simp only [newRow_size, Array.size_setIfInBounds, Array.size_push]; done) | (simp only [newRow_size, Array.size_setIfInBounds, Array.size_push]; omega)) [l33_31, r33_28, hic, eqT, eqF, neT, neF, ltT, ltF, leT, leF, nltT, nltF, nleT, nleF, nneT, nneF, List.getElem?_cons_zero, List.getElem?_cons_succ, r33_29, hlt, hg, ha, hle, hwA, hwB]
    refine Ans.next (kept_spec (F := F) (by omega) (ow x hxd) (hi := x.hi) (st.own x hm).2 (by omega) (by omega) (-100 * (i : Int) - 100) (by omega)) ?_
    rintro u5 g5 ⟨L5, G5, rfl, sL5, sG5, y5, f5⟩
    have oL5 := sL5.one
    have oG5 := sG5.one
    simp only [oneCell] at oL5 oG5
    simp (disch := first | omega | (simp only [newRow_size, Array.size_setIfInBounds, Array.size_push]; done) | (simp only [newRow_size, Array.size_setIfInBounds, Array.size_push]; omega)) [oL5, oG5, srcOf]
    refine Ans.next (book_step bk (by omega) zblt (fun c q => zbr c q x hxd) (by omega) sL5 sG5 y5 f5) ?_
    rintro bv' g7 ⟨Z1, bk7, y7, f7, z1lt, hZ1⟩
    simp (disch := first | omega | (simp only [newRow_size, Array.size_setIfInBounds, Array.size_push]; done) | (simp only [newRow_size, Array.size_setIfInBounds, Array.size_push]; omega)) [r33_30, hw1]
    rw [← e1]
    refine ih (T.length - (i + 1)) _ _ (by omega) ⟨i + 1, bv', Z1, _, rfl, by omega, rfl, bk7, by simp; omega, ?_, z1lt, ?_, ?_, ?_, ?_, by omega⟩
    · intro z hz
      rcases List.mem_append.1 hz with hz | hz
      · exact hxs z hz
      · simp only [List.mem_singleton] at hz
        subst hz
        exact ⟨by simp only; omega, by simp only; omega, by simp only; omega⟩
    · intro c q y hy hr
      have hyT := List.mem_of_mem_drop hy
      have hry := st.rng y hyT
      have hd := hdis y hy
      rcases hZ1 c q with q | q | q
      · exact zbr c q y (by rw [hdr]; simp [hy]) hr
      · omega
      · omega
    · intro c hc q
      have hcl := (st.zlt c (st.za c hc)).2
      rcases hZ1 c q with q | q | q
      · exact zab c hc q
      · exact st.zr c (st.za c hc) x hm q
      · omega
    · exact val_keep ba (fun c hc hcs => f7 c hcs (zab c hc) (st.zr c (st.za c hc) x hm))
    · intro y hy
      have hyT := List.mem_of_mem_drop hy
      have hyd : y ∈ T.drop i := by rw [hdr]; simp [hy]
      have hd := hdis y hy
      exact (ow y hyd).keep2 (st.own y hyT).2 (fun c h1 h2 h3 => f7 c h3 (fun q => zbr c q y hyd ⟨h1, h2⟩) (by omega))
  · have hii : i = T.length := by omega
    subst hii
    simp (disch := first | omega | (simp only [newRow_size, Array.size_setIfInBounds, Array.size_push]; done) | (simp only [newRow_size, Array.size_setIfInBounds, Array.size_push]; omega)) [l33_31, r33_28, hla, eqT, eqF, neT, neF, ltT, ltF, leT, leF, nltT, nltF, nleT, nleF, nneT, nneF, List.getElem?_cons_zero, List.getElem?_cons_succ]
    exact hk g' bv ZB xs _ bk.sl (by omega) hxs

set_option maxHeartbeats 2000000 in
theorem held_spec {F : Nat} (hF : 300000 ≤ F) {ok : Nat → Prop} {h : H} {lv v : Value} {W : List Nat} (ls : LS h lv [] 0 false W) {script : List Stp} (s : SlR ok 6 (StpC ok) h v script) (hok : ∀ c, ok c → c ∉ W) :
    Ans (cf F 33 [lv, v] h) fun u h' => u = .bool true := by
  generalize hQ : (fun (u : Value) (h' : H) => u = Value.bool true) = Q
  obtain ⟨F, rfl⟩ : ∃ G, F = G + 1 := ⟨F - 1, by omega⟩
  have hres : a33.results = [.tmp 4] := rfl
  rw [cf_step (a := a33) rfl rfl (by simp [a33]), a33_cut, hres]
  simp (disch := first | omega | (simp only [newRow_size, Array.size_setIfInBounds, Array.size_push]; done) | (simp only [newRow_size, Array.size_setIfInBounds, Array.size_push]; omega)) [r33_0, r33_1, r33_2]
  refine hd1_spec (F := F) (by omega) ls s hok ?_
  intro g1 fl1 last1 W1 Z1 ZA1 ZW1 av1 wv1 T1 e1 st1 hT1 hl1 hz1
  simp (disch := first | omega | (simp only [newRow_size, Array.size_setIfInBounds, Array.size_push]; done) | (simp only [newRow_size, Array.size_setIfInBounds, Array.size_push]; omega)) []
  refine hd2_spec (F := F) (by omega) st1 hz1 hT1 hl1 ?_
  intro g2 fl2 last2 W2 Z2 ZA2 ZW2 av2 wv2 T2 e2 st2 hT2
  simp (disch := first | omega | (simp only [newRow_size, Array.size_setIfInBounds, Array.size_push]; done) | (simp only [newRow_size, Array.size_setIfInBounds, Array.size_push]; omega)) []
  refine hd3_spec (F := F) (by omega) st2 hT2 ?_
  intro e3
  simp (disch := first | omega | (simp only [newRow_size, Array.size_setIfInBounds, Array.size_push]; done) | (simp only [newRow_size, Array.size_setIfInBounds, Array.size_push]; omega)) [r33_26]
  refine hd4_spec (F := F) (by omega) st2 hT2 ?_
  intro g4 bv ZB xs e4 sb hxl hxs
  simp (disch := first | omega | (simp only [newRow_size, Array.size_setIfInBounds, Array.size_push]; done) | (simp only [newRow_size, Array.size_setIfInBounds, Array.size_push]; omega)) [r33_32]
  refine Ans.next (still_spec (F := F) (by omega) sb (by omega) hxs) ?_
  rintro u g5 ⟨rfl, k5⟩
  simp (disch := first | omega | (simp only [newRow_size, Array.size_setIfInBounds, Array.size_push]; done) | (simp only [newRow_size, Array.size_setIfInBounds, Array.size_push]; omega)) []
  subst hQ
  exact Ans.of rfl

end Go.Proofs.Ytmenfnapbggglaa

/- LineOwn. -/
set_option linter.unusedSimpArgs false
set_option linter.unusedVariables false
namespace Go.Proofs.Ytmenfnapbggglaa
open Go.Ev

set_option maxHeartbeats 2000000 in
theorem f13_spec {F : Nat} (hF : 400000 ≤ F) {h : H} {ok : Nat → Prop} {v : Value} {script : List Stp} (s : SlR ok 6 (StpC ok) h v script) :
    Ans (cf F 13 [v] h) fun u h' => u = .bool true := by
  generalize hQ : (fun (u : Value) (h' : H) => u = Value.bool true) = Q
  obtain ⟨F, rfl⟩ : ∃ G, F = G + 1 := ⟨F - 1, by omega⟩
  rw [cf_step (a := a13) rfl rfl (by simp [a13])]
  have hnew : ∀ h, cf F 15 [] h = some (.pointer (some ⟨h.size, 0, none⟩), Ev.newRow h [.map none, .int .i64 0] 0 []) := by
    obtain ⟨F, rfl⟩ : ∃ G, F = G + 1 := ⟨F - 1, by omega⟩
    exact fun h => new_eq F h
  simp (disch := first | omega | (simp only [newRow_size, Array.size_setIfInBounds, Array.size_push]; done) | (simp only [newRow_size, Array.size_setIfInBounds, Array.size_push]; omega)) [a13, r13_0, r13_1, r13_2, r13_3, hnew, r13_4, nilEq, eqT, eqF, neT, neF, ltT, ltF, leT, leF, nltT, nltF, nleT, nleF, nneT, nneF, List.getElem?_cons_zero, List.getElem?_cons_succ]
  generalize hzz : [Value.map none, .int .i64 0] = zz
  have hl1 : hget (Ev.newRow (Ev.newRow (Ev.newRow h zz 0 []) zz 0 []) zz 0 []) h.size = some (.cells zz 0 true []) := by simp (disch := first | omega | (simp only [newRow_size, Array.size_setIfInBounds, Array.size_push]; done) | (simp only [newRow_size, Array.size_setIfInBounds, Array.size_push]; omega)) []
  have hl2 : hget (Ev.newRow (Ev.newRow (Ev.newRow h zz 0 []) zz 0 []) zz 0 []) (h.size + 1) = some (.cells zz 0 true []) := by simp (disch := first | omega | (simp only [newRow_size, Array.size_setIfInBounds, Array.size_push]; done) | (simp only [newRow_size, Array.size_setIfInBounds, Array.size_push]; omega)) []
  have hl3 : hget (Ev.newRow (Ev.newRow (Ev.newRow h zz 0 []) zz 0 []) zz 0 []) (h.size + 2) = some (.cells zz 0 true []) := by simp (disch := first | omega | (simp only [newRow_size, Array.size_setIfInBounds, Array.size_push]; done) | (simp only [newRow_size, Array.size_setIfInBounds, Array.size_push]; omega)) []
  have k1 : Kept h (Ev.newRow (Ev.newRow (Ev.newRow h zz 0 []) zz 0 []) zz 0 []) [] := kept_row (kept_row (rowKept _ _ _ _) _ _ _) _ _ _
  have z1 : (Ev.newRow (Ev.newRow (Ev.newRow h zz 0 []) zz 0 []) zz 0 []).size = h.size + 3 := by simp
  generalize Ev.newRow (Ev.newRow (Ev.newRow h zz 0 []) zz 0 []) zz 0 [] = g at hl1 hl2 hl3 k1 z1 ⊢
  subst hzz
  have line : ∀ {g : H} {b : Nat}, hget g b = some (.cells [.map none, .int .i64 0] 0 true []) → LS g (.pointer (some ⟨b, 0, none⟩)) [] 0 false [b] := fun hb => .inr ⟨_, none, rfl, rfl, ⟨hb, fun _ => rfl, nofun⟩, rfl⟩
  have sg : SlR (fun c => ok c ∧ c < h.size) 6 (StpC fun c => ok c ∧ c < h.size) g v script := SlR.imp s (fun c hc q => ⟨q, hc⟩) (fun cs x _ q => StpC.imp q (fun c hc q => ⟨q, hc⟩) (keep_of k1.c (by simp))) (keep_of k1.c (by simp))
  simp (disch := first | omega | (simp only [newRow_size, Array.size_setIfInBounds, Array.size_push]; done) | (simp only [newRow_size, Array.size_setIfInBounds, Array.size_push]; omega)) [r13_6]
  refine Ans.next (marked_spec (F := F) (by omega) (line hl1) (line hl2) (by simp) sg (fun c q => by
    have := q.2
    simp
    omega)) ?_
  rintro u g2 ⟨rfl, y2, f2⟩
  have hl3' := (f2 (h.size + 2) (by omega) (by simp) (by simp)).trans hl3
  have kc : ∀ b cs, (ok b ∧ b < h.size) → cel g b = some cs → cel g2 b = some cs := fun b cs hb hq => (cel_congr (f2 b (by omega) (by simp; omega) (by simp; omega))).trans hq
  have sg2 : SlR (fun c => ok c ∧ c < h.size) 6 (StpC fun c => ok c ∧ c < h.size) g2 v script := SlR.imp sg (fun _ _ q => q) (fun cs x _ q => StpC.imp q (fun _ _ q => q) kc) kc
  simp (disch := first | omega | (simp only [newRow_size, Array.size_setIfInBounds, Array.size_push]; done) | (simp only [newRow_size, Array.size_setIfInBounds, Array.size_push]; omega)) [eqT, eqF, neT, neF, ltT, ltF, leT, leF, nltT, nltF, nleT, nleF, nneT, nneF, List.getElem?_cons_zero, List.getElem?_cons_succ]
  refine Ans.next (held_spec (F := F) (by omega) (line hl3') sg2 (fun c q => by
    have := q.2
    simp
    omega)) ?_
  rintro u g3 rfl
  simp (disch := first | omega | (simp only [newRow_size, Array.size_setIfInBounds, Array.size_push]; done) | (simp only [newRow_size, Array.size_setIfInBounds, Array.size_push]; omega)) [eqT, eqF, neT, neF, ltT, ltF, leT, leF, nltT, nltF, nleT, nleF, nneT, nneF, List.getElem?_cons_zero, List.getElem?_cons_succ]
  refine Ans.next (knownK (F := F) (by omega) g3) ?_
  rintro u g4 ⟨rfl, k4⟩
  simp (disch := first | omega | (simp only [newRow_size, Array.size_setIfInBounds, Array.size_push]; done) | (simp only [newRow_size, Array.size_setIfInBounds, Array.size_push]; omega)) [eqT, eqF, neT, neF, ltT, ltF, leT, leF, nltT, nltF, nleT, nleF, nneT, nneF, List.getElem?_cons_zero, List.getElem?_cons_succ]
  subst hQ
  exact Ans.of rfl

end Go.Proofs.Ytmenfnapbggglaa
