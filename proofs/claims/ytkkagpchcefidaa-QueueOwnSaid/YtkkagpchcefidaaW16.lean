/- Several texts in one: Qw1, Qw2, Qw3, Qw4, Qw5, Qw6. -/
import Derived.Test.YtkkagpchcefidaaW15

/- QueueOwn: Clone, copiedChanges, copiedParts: each list in a row of its own. -/
set_option linter.unusedSimpArgs false
set_option linter.unusedVariables false
namespace Go.Proofs.Ytkkagpchcefidaa
open Go.Ev

def TgdO (κ : Kp) (j i : Nat) (h : H) (cs : List Value) (x : Tgd × Nat) : Prop := ∃ v, cs = [.int .i64 x.1.chg.kind, .string x.1.chg.place, .string x.1.chg.data, .int .i64 x.1.chg.ver, v] ∧ BldA (fun c => κ c = .ans j 3 i x.2) 1 IntC h v x.1.tags
def PrtO (κ : Kp) (j i : Nat) (h : H) (cs : List Value) (x : Prt × Nat) : Prop := ∃ v, cs = [.int .i64 x.1.id, .int .i64 x.1.stamp, .string x.1.place, .int .i64 x.1.kind, v] ∧ BldA (fun c => κ c = .ans j 4 i x.2) 3 SeenC h v x.1.nodes
def ItmO (κ : Kp) (j : Nat) (h : H) (cs : List Value) (x : Itm × Nat) : Prop := ∃ v w, cs = [.int .i64 x.1.stamp, .int .i64 x.1.after, .bool x.1.marker, v, w] ∧ BldA (fun c => κ c = .ans j 1 x.2 0) 5 (TgdO κ j x.2) h v x.1.chgs.zipIdx ∧ BldA (fun c => κ c = .ans j 2 x.2 0) 5 (PrtO κ j x.2) h w x.1.prts.zipIdx

section
variable {κ κ' : Kp} {S : Col → Prop} {h h' : H} {j i : Nat} {cs : List Value}

theorem TgdO.tr {x : Tgd × Nat} (s : TgdO κ j i h cs x) (k : Ch κ S h h') (hS : ¬ S (.ans j 3 i x.2)) (hk : Agr h.size κ κ') : TgdO κ' j i h' cs x := by
  obtain ⟨v, e, b⟩ := s
  exact ⟨v, e, b.tr k hS hk (fun _ _ _ _ q => q)⟩
theorem PrtO.tr {x : Prt × Nat} (s : PrtO κ j i h cs x) (k : Ch κ S h h') (hS : ¬ S (.ans j 4 i x.2)) (hk : Agr h.size κ κ') : PrtO κ' j i h' cs x := by
  obtain ⟨v, e, b⟩ := s
  exact ⟨v, e, b.tr k hS hk (fun _ _ _ _ q => q)⟩
theorem ItmO.tr {x : Itm × Nat} (s : ItmO κ j h cs x) (k : Ch κ S h h') (hS : ∀ kd m, 1 ≤ kd → ¬ S (.ans j kd x.2 m)) (hk : Agr h.size κ κ') : ItmO κ' j h' cs x := by
  obtain ⟨v, w, e, b, c⟩ := s
  exact ⟨v, w, e, b.tr k (hS 1 0 (by omega)) hk (fun _ _ _ _ q => q.tr k (hS 3 _ (by omega)) hk), c.tr k (hS 2 0 (by omega)) hk (fun _ _ _ _ q => q.tr k (hS 4 _ (by omega)) hk)⟩
end

def CloneA {α : Type} (w : Nat) (R : H → List Value → α → Prop) (h : H) (xs : List α) (v : Value) (h' : H) : Prop := BldA (since h.size) w R h' v xs ∧ Kept h h' []

theorem cloneA_core {α : Type} {w bytes : Nat} {R : H → List Value → α → Prop} {ok : Nat → Prop} {h : H} {v : Value} {xs : List α} (hw : 0 < w) (s : SlR ok w R h v xs)
    (hb : xs.length * bytes ≤ 2 ^ 47) (hcs : ∀ h cs x, R h cs x → cs.length = w ∧ cs.all oneCell = true) (hR : ∀ h h' cs x, R h cs x → R h' cs x) :
    ∃ new, srcOf (Ev.newRow h [] w []) w v = some (xs.length, new) ∧ new.all oneCell = true ∧ Ans (appendTo (Ev.newRow h [] w []) w bytes (.slice (some ⟨h.size, 0, none⟩) 0 0) xs.length new) (CloneA w R h xs) := by
  obtain ⟨new, e1, e2, _⟩ := clone_core hw s hb hcs (fun h h' cs x _ q => hR h h' cs x q)
  have k1 : Kept h (Ev.newRow h [] w []) [] := ⟨by simp, fun c hc _ => by simp [hc]⟩
  have s1 : SlR ok w R (Ev.newRow h [] w []) v xs := s.kc k1.c (by simp) fun cs x _ q => hR _ _ cs x q
  obtain ⟨new', e1', e2', e3'⟩ := s1.src hw (fun cs x _ q => (hcs _ cs x q).1)
  rw [e1] at e1'
  injection e1' with e1'
  injection e1' with _ e1'
  subst e1'
  refine ⟨new, e1, e2, ?_⟩
  have b0 : BldA (since h.size) w R (Ev.newRow h [] w []) (.slice (some ⟨h.size, 0, none⟩) 0 0) ([] : List α) :=
    .inr ⟨h.size, [], [], rfl, Nat.le_refl _, by simp, by simp, by simp, by simp⟩
  refine (b0.appN (R2 := R) (ys := xs) (bytes := bytes) e2' (by simpa using hb) (by simp [since]) (by simp) (fun h' k i y hy => hR _ _ _ _ (e3' i y hy))).mono ?_
  rintro v' h' ⟨q1, q2, q3⟩
  refine ⟨by simpa using q1, ⟨by have := q2.1; simp at this; omega, fun c hc _ => ?_⟩⟩
  rw [q2.2 c (by simp; omega) (by simp [since]; omega)]
  simp [hc]

theorem cloneIA_spec {F : Nat} (hF : 1 ≤ F) {ok : Nat → Prop} {h : H} {v : Value} {xs : List Int} (s : SlR ok 1 IntC h v xs) (hb : xs.length ≤ 17592186044416) : Ans (cf F 61 [v] h) (CloneA 1 IntC h xs) := by
  obtain ⟨F, rfl⟩ : ∃ G, F = G + 1 := ⟨F - 1, by omega⟩
  rw [cf_step (a := a61) rfl rfl (by simp [a61])]
  obtain ⟨new, e1, e2, e3⟩ := cloneA_core (bytes := 8) (by omega) s (by omega) int_cells (fun _ _ _ _ q => q)
  rcases isnil_some s with ⟨rfl, rfl⟩ | ⟨a, n, c, rfl⟩
  · simp (disch := first | omega | (simp only [newRow_size, Array.size_setIfInBounds, Array.size_push]; done) | (simp only [newRow_size, Array.size_setIfInBounds, Array.size_push]; omega)) [a61, r61_0, r61_1, r61_2, eqT, eqF, neT, neF, ltT, ltF, leT, leF, nltT, nltF, nleT, nleF, nneT, nneF, flipX, List.getElem?_cons_zero, List.getElem?_cons_succ]
    exact Ans.of ⟨BldA.nil, Kept.refl _ _⟩
  · simp (disch := first | omega | (simp only [newRow_size, Array.size_setIfInBounds, Array.size_push]; done) | (simp only [newRow_size, Array.size_setIfInBounds, Array.size_push]; omega)) [a61, r61_0, r61_1, r61_3, eqT, eqF, neT, neF, ltT, ltF, leT, leF, nltT, nltF, nleT, nleF, nneT, nneF, flipX, List.getElem?_cons_zero, List.getElem?_cons_succ, e1, e2]
    refine Ans.next e3 ?_
    intro v' h' q
    simp (disch := first | omega | (simp only [newRow_size, Array.size_setIfInBounds, Array.size_push]; done) | (simp only [newRow_size, Array.size_setIfInBounds, Array.size_push]; omega)) []
    exact Ans.of q

theorem cloneSA_spec {F : Nat} (hF : 1 ≤ F) {ok : Nat → Prop} {h : H} {v : Value} {xs : List Seen} (s : SlR ok 3 SeenC h v xs) (hb : xs.length ≤ 3518437208883) : Ans (cf F 62 [v] h) (CloneA 3 SeenC h xs) := by
  obtain ⟨F, rfl⟩ : ∃ G, F = G + 1 := ⟨F - 1, by omega⟩
  rw [cf_step (a := a62) rfl rfl (by simp [a62])]
  obtain ⟨new, e1, e2, e3⟩ := cloneA_core (bytes := 40) (by omega) s (by omega) seen_cells (fun _ _ _ _ q => q)
  rcases isnil_some s with ⟨rfl, rfl⟩ | ⟨a, n, c, rfl⟩
  · simp (disch := first | omega | (simp only [newRow_size, Array.size_setIfInBounds, Array.size_push]; done) | (simp only [newRow_size, Array.size_setIfInBounds, Array.size_push]; omega)) [a62, r62_0, r62_1, r62_2, eqT, eqF, neT, neF, ltT, ltF, leT, leF, nltT, nltF, nleT, nleF, nneT, nneF, flipX, List.getElem?_cons_zero, List.getElem?_cons_succ]
    exact Ans.of ⟨BldA.nil, Kept.refl _ _⟩
  · simp (disch := first | omega | (simp only [newRow_size, Array.size_setIfInBounds, Array.size_push]; done) | (simp only [newRow_size, Array.size_setIfInBounds, Array.size_push]; omega)) [a62, r62_0, r62_1, r62_3, eqT, eqF, neT, neF, ltT, ltF, leT, leF, nltT, nltF, nleT, nleF, nneT, nneF, flipX, List.getElem?_cons_zero, List.getElem?_cons_succ, e1, e2]
    refine Ans.next e3 ?_
    intro v' h' q
    simp (disch := first | omega | (simp only [newRow_size, Array.size_setIfInBounds, Array.size_push]; done) | (simp only [newRow_size, Array.size_setIfInBounds, Array.size_push]; omega)) []
    exact Ans.of q

theorem zip_at {α : Type} {xs : List α} {i : Nat} {x : α} (hx : xs[i]? = some x) : xs.zipIdx[i]? = some (x, i) := by
  rw [List.getElem?_zipIdx, hx]; simp
theorem zip_inv {α : Type} {xs : List α} {i : Nat} {x : α × Nat} (hx : xs.zipIdx[i]? = some x) : xs[i]? = some x.1 ∧ x.2 = i := by
  rw [List.getElem?_zipIdx] at hx
  obtain ⟨y, hy, rfl⟩ := Option.map_eq_some_iff.1 hx
  exact ⟨hy, by simp⟩

/-- A clone, in colours: what is new is of one colour. -/
theorem CloneA.col {α : Type} {w : Nat} {R : H → List Value → α → Prop} {h h' : H} {xs : List α} {v : Value} (s : CloneA w R h xs v h') (hR : ∀ h h' cs x, R h cs x → R h' cs x) {g : H} (hg : ∀ c, h.size ≤ c → hget g c = hget h' c) (hz : h'.size ≤ g.size) (κ : Kp) (t : Col) :
    BldA (fun c => ext κ h.size t c = t) w R g v xs :=
  s.1.to hz rfl (fun c _ q => ext_ge q) (fun c x e q => (hg c q).trans e) (fun cs i x y hx hy q => by rw [hx] at hy; cases hy; exact hR _ _ _ _ q)

def CopyTA (κ : Kp) (j i : Nat) (h : H) (xs : List Tgd) (v : Value) (h' : H) : Prop := Kept h h' [] ∧ ∃ κ', Agr h.size κ κ' ∧ (∀ c, h.size ≤ c → ∃ k, κ' c = .ans j 1 i k ∨ κ' c = .ans j 3 i k) ∧ BldA (fun c => κ' c = .ans j 1 i 0) 5 (TgdO κ' j i) h' v xs.zipIdx
def CopyPA (κ : Kp) (j i : Nat) (h : H) (xs : List Prt) (v : Value) (h' : H) : Prop := Kept h h' [] ∧ ∃ κ', Agr h.size κ κ' ∧ (∀ c, h.size ≤ c → ∃ k, κ' c = .ans j 2 i k ∨ κ' c = .ans j 4 i k) ∧ BldA (fun c => κ' c = .ans j 2 i 0) 5 (PrtO κ' j i) h' v xs.zipIdx

theorem copiedChangesA_spec {F : Nat} (hF : 17592186044420 ≤ F) {ok : Nat → Prop} {h : H} {v : Value} {xs : List Tgd} (s : SlR ok 5 (TgdC ok) h v xs) (hs : ShortT xs) (κ : Kp) (jj ii : Nat) (hfr : ∀ c, c < h.size → κ c ≠ .ans jj 1 ii 0) : Ans (cf F 44 [v] h) (CopyTA κ jj ii h xs) := by
  generalize hQ : CopyTA κ jj ii h xs = Q
  obtain ⟨F, rfl⟩ : ∃ G, F = G + 1 := ⟨F - 1, by omega⟩
  obtain ⟨hs1, hs2⟩ := hs
  rw [cf_step (a := a44) rfl rfl (by simp [a44])]
  have hl := s.len
  simp (disch := first | omega | (simp only [newRow_size, Array.size_setIfInBounds, Array.size_push]; done) | (simp only [newRow_size, Array.size_setIfInBounds, Array.size_push]; omega)) [a44, r44_0, r44_1, r44_2, hl, eqT, eqF, neT, neF, ltT, ltF, leT, leF, nltT, nltF, nleT, nleF, nneT, nneF, flipX, List.getElem?_cons_zero, List.getElem?_cons_succ]
  refine loop_rule (fun m e g => ∃ (i : Nat) (u : Value) (κ' : Kp), m = xs.length - i ∧ i ≤ xs.length ∧ e = [(3, u), (6, v), (7, .int .i64 xs.length), (8, .int .i64 i)] ∧ Kept h g [] ∧ Agr h.size κ κ' ∧ (∀ c, h.size ≤ c → ∃ k, κ' c = .ans jj 1 ii k ∨ κ' c = .ans jj 3 ii k) ∧ BldA (fun c => κ' c = .ans jj 1 ii 0) 5 (TgdO κ' jj ii) g u (xs.zipIdx.take i)) ?_ _ xs.length _ _ (by omega) ⟨0, _, ext κ h.size (.ans jj 1 ii 0), by omega, by omega, rfl, Kept.refl _ _, Agr.ext (Nat.le_refl _), fun c hc => ⟨0, .inl (ext_ge hc)⟩, BldA.nil⟩
  rintro m e g again ⟨i, u, κ', rfl, hi, rfl, kg, ag, nw, bu⟩ ih
  by_cases hlt : i < xs.length
  · obtain ⟨x, hx⟩ : ∃ x, xs[i]? = some x := ⟨_, List.getElem?_eq_getElem hlt⟩
    have sg := SlTgd.imp s (ok' := ok) (fun _ _ q => q) (keep_of kg.c (by simp))
    obtain ⟨b, o, c, cs, es, lv, an, rfl, hk, hg, hle, vt, hat, st⟩ := sg.at' hx
    have hgs := lt_of_get hg
    have hto := st.one
    simp only [oneCell] at hto
    have hw : IntKind.i64.wrap ((i : Int) + 1) = ((i + 1 : Nat) : Int) := by rw [IntKind.wrap_i64]; omega
    simp (disch := first | omega | (simp only [newRow_size, Array.size_setIfInBounds, Array.size_push]; done) | (simp only [newRow_size, Array.size_setIfInBounds, Array.size_push]; omega)) [l44_8, r44_3, r44_4, hg, hat, hto, eqT, eqF, neT, neF, ltT, ltF, leT, leF, nltT, nltF, nleT, nleF, nneT, nneF, flipX, List.getElem?_cons_zero, List.getElem?_cons_succ, r44_5]
    have yg := kg.1
    refine Ans.next (cloneIA_spec (F := F) (by omega) (SlInt.imp st (ok' := ok) (fun _ _ q => q) (keep_of (rowKept _ _ _ _).c (by simp))) (hs2 x (List.mem_of_getElem? hx))) ?_
    rintro v2 h2 cl
    have k2 := cl.2
    have y2 := k2.1
    have g2 := fun c => k2.get (b := c)
    simp only [List.not_mem_nil, not_false_eq_true, forall_const, newRow_size] at g2 y2
    have hto2 := cl.1.sl.one
    have hvc2 := cl.1.sl.vc
    simp only [oneCell] at hto2
    simp only [vcells] at hvc2
    simp (disch := first | omega | (simp only [newRow_size, Array.size_setIfInBounds, Array.size_push]; done) | (simp only [newRow_size, Array.size_setIfInBounds, Array.size_push]; omega)) [g2, hto2, hvc2, eqT, eqF, neT, neF, ltT, ltF, leT, leF, nltT, nltF, nleT, nleF, nneT, nneF, flipX, List.getElem?_cons_zero, List.getElem?_cons_succ, r44_6, srcOf]
    have kG : Kept g (Array.setIfInBounds h2 g.size (.cells [.int .i64 x.chg.kind, .string x.chg.place, .string x.chg.data, .int .i64 x.chg.ver, v2] 0 true [])) [] := ⟨(by first | omega | (simp only [newRow_size, Array.size_setIfInBounds, Array.size_push]; done) | (simp only [newRow_size, Array.size_setIfInBounds, Array.size_push]; omega)), fun c hc _ => by simp (disch := first | omega | (simp only [newRow_size, Array.size_setIfInBounds, Array.size_push]; done) | (simp only [newRow_size, Array.size_setIfInBounds, Array.size_push]; omega)) [g2]⟩
    have bt := cl.col (fun _ _ _ _ q => q) (g := Array.setIfInBounds h2 g.size (.cells [.int .i64 x.chg.kind, .string x.chg.place, .string x.chg.data, .int .i64 x.chg.ver, v2] 0 true [])) (fun c hc => set_other (by simp at hc; omega)) (by simp) κ' (.ans jj 3 ii i)
    have zE : (Array.setIfInBounds h2 g.size (.cells [.int .i64 x.chg.kind, .string x.chg.place, .string x.chg.data, .int .i64 x.chg.ver, v2] 0 true [])).size = h2.size := by simp
    simp only [newRow_size] at bt
    generalize Array.setIfInBounds h2 g.size (.cells [.int .i64 x.chg.kind, .string x.chg.place, .string x.chg.data, .int .i64 x.chg.ver, v2] 0 true []) = gE at kG bt zE ⊢
    have a1 : Agr g.size κ' (ext κ' (g.size + 1) (.ans jj 3 ii i)) := Agr.ext (by omega)
    have n1 : ∀ c, h.size ≤ c → ∃ k, ext κ' (g.size + 1) (.ans jj 3 ii i) c = .ans jj 1 ii k ∨ ext κ' (g.size + 1) (.ans jj 3 ii i) c = .ans jj 3 ii k := by
      intro c hc
      by_cases h1 : c < g.size + 1
      · rw [ext_lt h1]; exact nw c hc
      · exact ⟨i, .inr (ext_ge (by omega))⟩
    generalize ext κ' (g.size + 1) (.ans jj 3 ii i) = κ1 at a1 bt n1
    have bE := bu.tr (R2 := TgdO κ1 jj ii) (Ch.of (S := no) kG) (by simp [no]) a1 (fun cs n y _ q => q.tr (Ch.of (S := no) kG) (by simp [no]) a1)
    have a2 : Agr gE.size κ1 (ext κ1 gE.size (.ans jj 1 ii 0)) := Agr.ext (Nat.le_refl _)
    refine Ans.next (bE.app (x := (x, i)) (bytes := 72) (R2 := TgdO (ext κ1 gE.size (.ans jj 1 ii 0)) jj ii) rfl ?_ ?_ ?_) ?_
    · rw [List.length_take, List.length_zipIdx]; omega
    · exact fun h' k cs n y _ q => q.tr k (by simp) a2
    · exact fun h' k => ⟨v2, rfl, bt.tr k (by simp) a2 (fun _ _ _ _ q => q)⟩
    rintro u' h3 ⟨b3, k3, c3⟩
    simp (disch := first | omega | (simp only [newRow_size, Array.size_setIfInBounds, Array.size_push]; done) | (simp only [newRow_size, Array.size_setIfInBounds, Array.size_push]; omega)) [r44_7, hw, eqT, eqF, neT, neF, ltT, ltF, leT, leF, nltT, nltF, nleT, nleF, nneT, nneF, flipX, List.getElem?_cons_zero, List.getElem?_cons_succ]
    have y3 := k3.1
    have yG := kG.1
    refine ih (xs.length - (i + 1)) _ _ (by omega) ⟨i + 1, u', _, rfl, by omega, rfl, ⟨by omega, fun c hc _ => ?_⟩, (ag.trans a1 (by omega)).trans a2 (by omega), ?_, by rw [take_snoc (zip_at hx)]; exact b3⟩
    · refine (k3.2 c (by omega) ?_).trans ((kG.get (by omega) (by simp)).trans (kg.get hc (by simp)))
      rw [(ag.trans a1 (by omega)) c hc]
      exact hfr c hc
    · intro c hc
      by_cases h1 : c < gE.size
      · rw [ext_lt h1]; exact n1 c hc
      · exact ⟨0, .inl (ext_ge (by omega))⟩
  · have hxi : i = xs.length := by omega
    subst hxi
    rw [List.take_of_length_le (by simp)] at bu
    simp (disch := first | omega | (simp only [newRow_size, Array.size_setIfInBounds, Array.size_push]; done) | (simp only [newRow_size, Array.size_setIfInBounds, Array.size_push]; omega)) [l44_8, r44_3, r44_9, eqT, eqF, neT, neF, ltT, ltF, leT, leF, nltT, nltF, nleT, nleF, nneT, nneF, flipX, List.getElem?_cons_zero, List.getElem?_cons_succ]
    subst hQ
    exact Ans.of ⟨kg, κ', ag, nw, bu⟩

theorem copiedPartsA_spec {F : Nat} (hF : 17592186044420 ≤ F) {ok : Nat → Prop} {h : H} {v : Value} {xs : List Prt} (s : SlR ok 5 (PrtC ok) h v xs) (hs : ShortP xs) (κ : Kp) (jj ii : Nat) (hfr : ∀ c, c < h.size → κ c ≠ .ans jj 2 ii 0) : Ans (cf F 45 [v] h) (CopyPA κ jj ii h xs) := by
  generalize hQ : CopyPA κ jj ii h xs = Q
  obtain ⟨F, rfl⟩ : ∃ G, F = G + 1 := ⟨F - 1, by omega⟩
  obtain ⟨hs1, hs2⟩ := hs
  rw [cf_step (a := a45) rfl rfl (by simp [a45])]
  have hl := s.len
  simp (disch := first | omega | (simp only [newRow_size, Array.size_setIfInBounds, Array.size_push]; done) | (simp only [newRow_size, Array.size_setIfInBounds, Array.size_push]; omega)) [a45, r45_0, r45_1, r45_2, hl, eqT, eqF, neT, neF, ltT, ltF, leT, leF, nltT, nltF, nleT, nleF, nneT, nneF, flipX, List.getElem?_cons_zero, List.getElem?_cons_succ]
  refine loop_rule (fun m e g => ∃ (i : Nat) (u : Value) (κ' : Kp), m = xs.length - i ∧ i ≤ xs.length ∧ e = [(3, u), (6, v), (7, .int .i64 xs.length), (8, .int .i64 i)] ∧ Kept h g [] ∧ Agr h.size κ κ' ∧ (∀ c, h.size ≤ c → ∃ k, κ' c = .ans jj 2 ii k ∨ κ' c = .ans jj 4 ii k) ∧ BldA (fun c => κ' c = .ans jj 2 ii 0) 5 (PrtO κ' jj ii) g u (xs.zipIdx.take i)) ?_ _ xs.length _ _ (by omega) ⟨0, _, ext κ h.size (.ans jj 2 ii 0), by omega, by omega, rfl, Kept.refl _ _, Agr.ext (Nat.le_refl _), fun c hc => ⟨0, .inl (ext_ge hc)⟩, BldA.nil⟩
  rintro m e g again ⟨i, u, κ', rfl, hi, rfl, kg, ag, nw, bu⟩ ih
  by_cases hlt : i < xs.length
  · obtain ⟨x, hx⟩ : ∃ x, xs[i]? = some x := ⟨_, List.getElem?_eq_getElem hlt⟩
    have sg := SlPrt.imp s (ok' := ok) (fun _ _ q => q) (keep_of kg.c (by simp))
    obtain ⟨b, o, c, cs, es, lv, an, rfl, hk, hg, hle, vt, hat, st⟩ := sg.at' hx
    have hgs := lt_of_get hg
    have hto := st.one
    simp only [oneCell] at hto
    have hw : IntKind.i64.wrap ((i : Int) + 1) = ((i + 1 : Nat) : Int) := by rw [IntKind.wrap_i64]; omega
    simp (disch := first | omega | (simp only [newRow_size, Array.size_setIfInBounds, Array.size_push]; done) | (simp only [newRow_size, Array.size_setIfInBounds, Array.size_push]; omega)) [l45_8, r45_3, r45_4, hg, hat, hto, eqT, eqF, neT, neF, ltT, ltF, leT, leF, nltT, nltF, nleT, nleF, nneT, nneF, flipX, List.getElem?_cons_zero, List.getElem?_cons_succ, r45_5]
    have yg := kg.1
    refine Ans.next (cloneSA_spec (F := F) (by omega) (SlSeen.imp st (ok' := ok) (fun _ _ q => q) (keep_of (rowKept _ _ _ _).c (by simp))) (hs2 x (List.mem_of_getElem? hx))) ?_
    rintro v2 h2 cl
    have k2 := cl.2
    have y2 := k2.1
    have g2 := fun c => k2.get (b := c)
    simp only [List.not_mem_nil, not_false_eq_true, forall_const, newRow_size] at g2 y2
    have hto2 := cl.1.sl.one
    have hvc2 := cl.1.sl.vc
    simp only [oneCell] at hto2
    simp only [vcells] at hvc2
    simp (disch := first | omega | (simp only [newRow_size, Array.size_setIfInBounds, Array.size_push]; done) | (simp only [newRow_size, Array.size_setIfInBounds, Array.size_push]; omega)) [g2, hto2, hvc2, eqT, eqF, neT, neF, ltT, ltF, leT, leF, nltT, nltF, nleT, nleF, nneT, nneF, flipX, List.getElem?_cons_zero, List.getElem?_cons_succ, r45_6, srcOf]
    have kG : Kept g (Array.setIfInBounds h2 g.size (.cells [.int .i64 x.id, .int .i64 x.stamp, .string x.place, .int .i64 x.kind, v2] 0 true [])) [] := ⟨(by first | omega | (simp only [newRow_size, Array.size_setIfInBounds, Array.size_push]; done) | (simp only [newRow_size, Array.size_setIfInBounds, Array.size_push]; omega)), fun c hc _ => by simp (disch := first | omega | (simp only [newRow_size, Array.size_setIfInBounds, Array.size_push]; done) | (simp only [newRow_size, Array.size_setIfInBounds, Array.size_push]; omega)) [g2]⟩
    have bt := cl.col (fun _ _ _ _ q => q) (g := Array.setIfInBounds h2 g.size (.cells [.int .i64 x.id, .int .i64 x.stamp, .string x.place, .int .i64 x.kind, v2] 0 true [])) (fun c hc => set_other (by simp at hc; omega)) (by simp) κ' (.ans jj 4 ii i)
    have zE : (Array.setIfInBounds h2 g.size (.cells [.int .i64 x.id, .int .i64 x.stamp, .string x.place, .int .i64 x.kind, v2] 0 true [])).size = h2.size := by simp
    simp only [newRow_size] at bt
    generalize Array.setIfInBounds h2 g.size (.cells [.int .i64 x.id, .int .i64 x.stamp, .string x.place, .int .i64 x.kind, v2] 0 true []) = gE at kG bt zE ⊢
    have a1 : Agr g.size κ' (ext κ' (g.size + 1) (.ans jj 4 ii i)) := Agr.ext (by omega)
    have n1 : ∀ c, h.size ≤ c → ∃ k, ext κ' (g.size + 1) (.ans jj 4 ii i) c = .ans jj 2 ii k ∨ ext κ' (g.size + 1) (.ans jj 4 ii i) c = .ans jj 4 ii k := by
      intro c hc
      by_cases h1 : c < g.size + 1
      · rw [ext_lt h1]; exact nw c hc
      · exact ⟨i, .inr (ext_ge (by omega))⟩
    generalize ext κ' (g.size + 1) (.ans jj 4 ii i) = κ1 at a1 bt n1
    have bE := bu.tr (R2 := PrtO κ1 jj ii) (Ch.of (S := no) kG) (by simp [no]) a1 (fun cs n y _ q => q.tr (Ch.of (S := no) kG) (by simp [no]) a1)
    have a2 : Agr gE.size κ1 (ext κ1 gE.size (.ans jj 2 ii 0)) := Agr.ext (Nat.le_refl _)
    refine Ans.next (bE.app (x := (x, i)) (bytes := 64) (R2 := PrtO (ext κ1 gE.size (.ans jj 2 ii 0)) jj ii) rfl ?_ ?_ ?_) ?_
    · rw [List.length_take, List.length_zipIdx]; omega
    · exact fun h' k cs n y _ q => q.tr k (by simp) a2
    · exact fun h' k => ⟨v2, rfl, bt.tr k (by simp) a2 (fun _ _ _ _ q => q)⟩
    rintro u' h3 ⟨b3, k3, c3⟩
    simp (disch := first | omega | (simp only [newRow_size, Array.size_setIfInBounds, Array.size_push]; done) | (simp only [newRow_size, Array.size_setIfInBounds, Array.size_push]; omega)) [r45_7, hw, eqT, eqF, neT, neF, ltT, ltF, leT, leF, nltT, nltF, nleT, nleF, nneT, nneF, flipX, List.getElem?_cons_zero, List.getElem?_cons_succ]
    have y3 := k3.1
    have yG := kG.1
    refine ih (xs.length - (i + 1)) _ _ (by omega) ⟨i + 1, u', _, rfl, by omega, rfl, ⟨by omega, fun c hc _ => ?_⟩, (ag.trans a1 (by omega)).trans a2 (by omega), ?_, by rw [take_snoc (zip_at hx)]; exact b3⟩
    · refine (k3.2 c (by omega) ?_).trans ((kG.get (by omega) (by simp)).trans (kg.get hc (by simp)))
      rw [(ag.trans a1 (by omega)) c hc]
      exact hfr c hc
    · intro c hc
      by_cases h1 : c < gE.size
      · rw [ext_lt h1]; exact n1 c hc
      · exact ⟨0, .inl (ext_ge (by omega))⟩
  · have hxi : i = xs.length := by omega
    subst hxi
    rw [List.take_of_length_le (by simp)] at bu
    simp (disch := first | omega | (simp only [newRow_size, Array.size_setIfInBounds, Array.size_push]; done) | (simp only [newRow_size, Array.size_setIfInBounds, Array.size_push]; omega)) [l45_8, r45_3, r45_9, eqT, eqF, neT, neF, ltT, ltF, leT, leF, nltT, nltF, nleT, nleF, nneT, nneF, flipX, List.getElem?_cons_zero, List.getElem?_cons_succ]
    subst hQ
    exact Ans.of ⟨kg, κ', ag, nw, bu⟩

end Go.Proofs.Ytkkagpchcefidaa

/- QueueOwn: Next, each list in a row of its own. -/
set_option linter.unusedSimpArgs false
set_option linter.unusedVariables false
namespace Go.Proofs.Ytkkagpchcefidaa
open Go.Ev

def NextA (κ : Kp) (j : Nat) (ok : Nat → Prop) (h : H) (b : Nat) (r : Option Nat) (first : Nat) (q : Qm) (most : Int) (u : Value) (h' : H) : Prop :=
  QAt ok h' b 0 r first q ∧ Kept h h' [b] ∧ ∃ κ', Agr h.size κ κ' ∧ (∀ c, h.size ≤ c → ∃ kd i k, κ' c = .ans j kd i k) ∧ BldA (fun c => κ' c = .ans j 0 0 0) 5 (ItmO κ' j) h' u (nextM q most).zipIdx

set_option maxHeartbeats 2000000 in
theorem NextA_spec {F : Nat} (hF : 17592186044430 ≤ F) {ok : Nat → Prop} {h : H} {b : Nat} {r : Option Nat} {first : Nat} {q : Qm} (s : QAt ok h b 0 r first q) (g : q.Good) (hs : ShortI q.items) (most : Int) (κ : Kp) (jj : Nat) (hfr : ∀ c, c < h.size → ∀ kd i k, κ c ≠ .ans jj kd i k) :
    Ans (cf F 20 [.pointer (some ⟨b, 0, none⟩), .int .i64 most] h) (NextA κ jj ok h b r first q most) := by
  generalize hQ : NextA κ jj ok h b r first q most = Q
  obtain ⟨F, rfl⟩ : ∃ G, F = G + 1 := ⟨F - 1, by omega⟩
  rw [cf_step (a := a20) rfl rfl (by simp [a20])]
  obtain ⟨s1, k1⟩ := s.lock 1
  simp (disch := first | omega | (simp only [newRow_size, Array.size_setIfInBounds, Array.size_push]; done) | (simp only [newRow_size, Array.size_setIfInBounds, Array.size_push]; omega)) [a20, r20_0, r20_1, r20_2, r20_3, r20_4, r20_5, evP_call, held_eq (F := F) (by omega) s, deferK_v, deferV_fn, eqT, eqF, neT, neF, ltT, ltF, leT, leF, nltT, nltF, nleT, nleF, nneT, nneF, List.getElem?_cons_zero, List.getElem?_cons_succ]
  have y1 : (h.setIfInBounds b (.cells (qcells 1 r first q) 0 true [])).size = h.size := by simp
  have hbs := lt_of_get s.at'
  generalize h.setIfInBounds b (.cells (qcells 1 r first q) 0 true []) = h1 at s1 k1 y1 ⊢
  have hgl := g.len
  have hgr := g.room
  obtain ⟨mm, hmm⟩ : ∃ mm : Int, (if (q.items.length : Int) < most then (q.items.length : Int) else most) = mm := ⟨_, rfl⟩
  have hN : (nextM q most).length = min most.toNat q.items.length := by simp [nextM]
  refine loop_rule (fun m e k => ∃ (i : Nat) (u : Value) (κ' : Kp), m = q.items.length - i ∧ i ≤ (nextM q most).length ∧ e = [(0, .pointer (some ⟨b, 0, none⟩)), (1, .int .i64 most), (5, u), (6, .int .i64 i)] ∧ Kept h1 k [] ∧ Agr h.size κ κ' ∧
    (∀ c, h.size ≤ c → κ' c = .ans jj 0 0 0 ∨ ∃ kd k i', i' < i ∧ κ' c = .ans jj (kd + 1) i' k) ∧ BldA (fun c => κ' c = .ans jj 0 0 0) 5 (ItmO κ' jj) k u (q.items.zipIdx.take i)) ?_ _ q.items.length _ _ (by omega)
    ⟨0, _, ext κ h.size (.ans jj 0 0 0), by omega, by omega, rfl, Kept.refl _ _, Agr.ext (Nat.le_refl _), fun c hc => .inl (ext_ge hc), BldA.nil⟩
  rintro m e k again ⟨i, u, κ', rfl, hi, rfl, kk, ag, nw, bu⟩ ih
  have sk := s1.frame kk
  have yk := kk.1
  have hbE := sk.at'
  simp only [qcells] at hbE
  by_cases hlt : i < (nextM q most).length
  · obtain ⟨x, hx⟩ : ∃ x, q.items[i]? = some x := ⟨_, List.getElem?_eq_getElem (by omega)⟩
    obtain ⟨r, rfl⟩ : ∃ c, r = some c := by
      cases r with
      | none => have := (sk.no rfl).1; omega
      | some r => exact ⟨r, rfl⟩
    obtain ⟨z1, z2, z3, z4, cs, z5, z6⟩ := sk.yes r rfl
    have hat := at_eq (F := F) (by omega) sk g i (by omega)
    have hp : (first + i) % q.room < q.room := Nat.mod_lt _ z1
    have hcl := z6.1
    obtain ⟨vt, vp, e3, st, sp⟩ := z6.2 i x hx
    have hw1 : IntKind.i64.wrap ((i : Int) + 1) = ((i + 1 : Nat) : Int) := by rw [wrap_id (by omega) (by omega)]; rfl
    generalize (first + i) % q.room = p at hat hp e3
    have hto := st.one
    have hpo := sp.one
    simp only [oneCell] at hto hpo
    have hks := lt_of_get hbE
    have hlm : (i : Int) < mm := by rw [← hmm]; split <;> omega
    simp (disch := first | omega | (simp only [newRow_size, Array.size_setIfInBounds, Array.size_push]; done) | (simp only [newRow_size, Array.size_setIfInBounds, Array.size_push]; omega)) [l20_11, r20_6, hbE, hat, z5, e3, hmm, eqT, eqF, neT, neF, ltT, ltF, leT, leF, nltT, nltF, nleT, nleF, nneT, nneF, List.getElem?_cons_zero, List.getElem?_cons_succ, r20_7, hto, hpo, d20_8]
    have sl1 := SlTgd.imp st (ok' := ok) (fun _ _ q => q) (keep_of (rowKept k [.int .i64 x.stamp, .int .i64 x.after, .bool x.marker, vt, vp] 0 []).c (by simp))
    have sl2 := SlPrt.imp sp (ok' := ok) (fun _ _ q => q) (keep_of (rowKept k [.int .i64 x.stamp, .int .i64 x.after, .bool x.marker, vt, vp] 0 []).c (by simp))
    obtain ⟨sh1, sh2⟩ := hs.2 x (List.mem_of_getElem? hx)
    -- no colour of this item is there as yet
    have hfr1 : ∀ c, κ' c ≠ .ans jj 1 i 0 ∧ κ' c ≠ .ans jj 2 i 0 := by
      intro c
      by_cases hc : c < h.size
      · rw [ag c hc]
        exact ⟨hfr c hc _ _ _, hfr c hc _ _ _⟩
      · rcases nw c (by omega) with e | ⟨kd, k', i', hi', e⟩
        · rw [e]; simp
        · rw [e]
          constructor <;> (intro e; injection e; omega)
    refine Ans.nextD (copiedChangesA_spec (F := F) (by omega) sl1 sh1 κ' jj i (fun c _ => (hfr1 c).1)) ?_
    rintro v2 h2 ⟨k2, κ2, a2, n2, b2⟩
    have y2 := k2.1
    have g2 := fun c => k2.get (b := c)
    simp only [List.not_mem_nil, not_false_eq_true, forall_const, newRow_size] at g2 y2 a2 n2
    simp (disch := first | omega | (simp only [newRow_size, Array.size_setIfInBounds, Array.size_push]; done) | (simp only [newRow_size, Array.size_setIfInBounds, Array.size_push]; omega)) [g2, eqT, eqF, neT, neF, ltT, ltF, leT, leF, nltT, nltF, nleT, nleF, nneT, nneF, List.getElem?_cons_zero, List.getElem?_cons_succ]
    have sl3 := SlPrt.imp sl2 (ok' := ok) (fun _ _ q => q) (keep_of k2.c (by simp))
    refine Ans.nextD (copiedPartsA_spec (F := F) (by omega) sl3 sh2 κ2 jj i ?_) ?_
    · intro c hc
      by_cases h1 : c < k.size + 1
      · rw [a2 c h1]; exact (hfr1 c).2
      · obtain ⟨k', e | e⟩ := n2 c (by omega) <;> rw [e] <;> simp
    rintro v3 h3 ⟨k3, κ3, a3, n3, b3⟩
    have y3 := k3.1
    have g3 := fun c => k3.get (b := c)
    simp only [List.not_mem_nil, not_false_eq_true, forall_const] at g3
    have hto2 := b2.sl.one
    have hvc2 := b2.sl.vc
    have hto3 := b3.sl.one
    have hvc3 := b3.sl.vc
    have hsv := SlR.sameV sp
    simp only [oneCell] at hto2 hto3
    simp only [vcells] at hvc2 hvc3
    simp (disch := first | omega | (simp only [newRow_size, Array.size_setIfInBounds, Array.size_push]; done) | (simp only [newRow_size, Array.size_setIfInBounds, Array.size_push]; omega)) [g2, g3, hto2, hvc2, hto3, hvc3, eqT, eqF, neT, neF, ltT, ltF, leT, leF, nltT, nltF, nleT, nleF, nneT, nneF, List.getElem?_cons_zero, List.getElem?_cons_succ, dk_go, chks_nil, chks_cons, chkA_nil, chkA_cons, chk1_no, chk1_yes, chkV_some, hAt_eq, hOf_some, hOf_none, hsv, r20_9, srcOf]
    have kG : Kept k (Array.setIfInBounds h3 k.size (.cells [.int .i64 x.stamp, .int .i64 x.after, .bool x.marker, v2, v3] 0 true [])) [] := ⟨(by first | omega | (simp only [newRow_size, Array.size_setIfInBounds, Array.size_push]; done) | (simp only [newRow_size, Array.size_setIfInBounds, Array.size_push]; omega)), fun c hc _ => by simp (disch := first | omega | (simp only [newRow_size, Array.size_setIfInBounds, Array.size_push]; done) | (simp only [newRow_size, Array.size_setIfInBounds, Array.size_push]; omega)) [g2, g3]⟩
    have k3G : ∀ c, c ≠ k.size → hget (Array.setIfInBounds h3 k.size (.cells [.int .i64 x.stamp, .int .i64 x.after, .bool x.marker, v2, v3] 0 true [])) c = hget h3 c := fun c hc => set_other (fun e => hc e.symm)
    have zE : (Array.setIfInBounds h3 k.size (.cells [.int .i64 x.stamp, .int .i64 x.after, .bool x.marker, v2, v3] 0 true [])).size = h3.size := by simp
    generalize Array.setIfInBounds h3 k.size (.cells [.int .i64 x.stamp, .int .i64 x.after, .bool x.marker, v2, v3] 0 true []) = gE at kG k3G zE ⊢
    -- the colours of this item
    have a13 : Agr k.size κ' κ3 := (fun c hc => (a3 c (by omega)).trans (a2 c (by omega)))
    have n13 : ∀ c, h.size ≤ c → κ3 c = .ans jj 0 0 0 ∨ ∃ kd k i', i' < i + 1 ∧ κ3 c = .ans jj (kd + 1) i' k := by
      intro c hc
      by_cases h1 : c < k.size + 1
      · rw [a3 c (by omega), a2 c h1]
        rcases nw c hc with e | ⟨kd, k', i', hi', e⟩
        · exact .inl e
        · exact .inr ⟨kd, k', i', by omega, e⟩
      · by_cases h2' : c < h2.size
        · rw [a3 c h2']
          obtain ⟨k', e | e⟩ := n2 c (by omega)
          · exact .inr ⟨0, k', i, by omega, e⟩
          · exact .inr ⟨2, k', i, by omega, e⟩
        · obtain ⟨k', e | e⟩ := n3 c (by omega)
          · exact .inr ⟨1, k', i, by omega, e⟩
          · exact .inr ⟨3, k', i, by omega, e⟩
    -- the block that holds the item while it is made is none of the lists'
    have hks' : κ3 k.size = κ' k.size := (a3 _ (by omega)).trans (a2 _ (by omega))
    have hkn := hfr1 k.size
    have bE := bu.tr (R2 := ItmO κ3 jj) (Ch.of (S := no) kG) (by simp [no]) a13 (fun cs n y _ q => q.tr (Ch.of (S := no) kG) (by simp [no]) a13)
    have c2 : BldA (fun c => κ3 c = .ans jj 1 i 0) 5 (TgdO κ3 jj i) gE v2 x.chgs.zipIdx := by
      have C : Ch κ2 (fun c => c = κ' k.size) h2 gE := ⟨by omega, fun c hc hn => by
        by_cases e : c = k.size
        · subst e
          exact absurd (a2 _ (by omega)) hn
        · rw [k3G c e, k3.get hc (by simp)]⟩
      refine b2.tr C (fun e => (hfr1 k.size).1 e.symm) a3 (fun cs n y hy q => q.tr C ?_ a3)
      intro e
      rcases nw k.size (by omega) with e' | ⟨kd, k', i', hi', e'⟩ <;> rw [e'] at e <;> injection e with e1 e2 e3
      · cases e2
      · omega
    have c3 : BldA (fun c => κ3 c = .ans jj 2 i 0) 5 (PrtO κ3 jj i) gE v3 x.prts.zipIdx := by
      have C : Ch κ3 (fun c => c = κ' k.size) h3 gE := ⟨by omega, fun c hc hn => by
        by_cases e : c = k.size
        · subst e
          exact absurd hks' hn
        · exact k3G c e⟩
      refine b3.tr C (fun e => (hfr1 k.size).2 e.symm) (Agr.refl _ _) (fun cs n y hy q => q.tr C ?_ (Agr.refl _ _))
      intro e
      rcases nw k.size (by omega) with e' | ⟨kd, k', i', hi', e'⟩ <;> rw [e'] at e <;> injection e with e1 e2 e3
      · cases e2
      · omega
    have a4 : Agr gE.size κ3 (ext κ3 gE.size (.ans jj 0 0 0)) := Agr.ext (Nat.le_refl _)
    refine Ans.next (bE.app (x := (x, i)) (bytes := 72) (R2 := ItmO (ext κ3 gE.size (.ans jj 0 0 0)) jj) rfl ?_ ?_ ?_) ?_
    · rw [List.length_take, List.length_zipIdx]; omega
    · exact fun h' k cs n y _ q => q.tr k (by intro kd m hk e; injection e with _ e; omega) a4
    · exact fun h' k => ⟨v2, v3, rfl, c2.tr k (by simp) a4 (fun _ _ _ _ q => q.tr k (by simp) a4), c3.tr k (by simp) a4 (fun _ _ _ _ q => q.tr k (by simp) a4)⟩
    rintro u' h5 ⟨b5, k5, c5⟩
    have y5 := k5.1
    simp (disch := first | omega | (simp only [newRow_size, Array.size_setIfInBounds, Array.size_push]; done) | (simp only [newRow_size, Array.size_setIfInBounds, Array.size_push]; omega)) [r20_10, hw1, eqT, eqF, neT, neF, ltT, ltF, leT, leF, nltT, nltF, nleT, nleF, nneT, nneF, List.getElem?_cons_zero, List.getElem?_cons_succ]
    refine ih (q.items.length - (i + 1)) _ _ (by omega) ⟨i + 1, u', _, rfl, by omega, rfl, ⟨by omega, fun c hc _ => ?_⟩, (ag.trans a13 (by omega)).trans a4 (by omega), ?_, by rw [take_snoc (zip_at hx)]; exact b5⟩
    · refine (k5.2 c (by omega) ?_).trans ((kG.get (by omega) (by simp)).trans (kk.get hc (by simp)))
      rw [a13 c (by omega), ag c (by omega)]
      exact hfr c (by omega) _ _ _
    · intro c hc
      by_cases h1 : c < gE.size
      · rw [ext_lt h1]; exact n13 c hc
      · exact .inl (ext_ge (by omega))
  · have hlm : ¬ (i : Int) < mm := by
      rw [← hmm]; split <;> omega
    simp (disch := first | omega | (simp only [newRow_size, Array.size_setIfInBounds, Array.size_push]; done) | (simp only [newRow_size, Array.size_setIfInBounds, Array.size_push]; omega)) [l20_11, r20_6, hbE, hmm, eqT, eqF, neT, neF, ltT, ltF, leT, leF, nltT, nltF, nleT, nleF, nneT, nneF, List.getElem?_cons_zero, List.getElem?_cons_succ, r20_12, unl sk]
    obtain ⟨s3, k3⟩ := sk.lock 0
    have hin : q.items.take i = nextM q most := by
      have : i = (nextM q most).length := by omega
      rw [this, hN, nextM]
      rcases Nat.le_total most.toNat q.items.length with e | e
      · rw [Nat.min_eq_left e]
      · rw [Nat.min_eq_right e, List.take_of_length_le (Nat.le_refl _), List.take_of_length_le e]
    have hz : q.items.zipIdx.take i = (nextM q most).zipIdx := by
      rw [← hin]
      apply List.ext_getElem?
      intro n
      by_cases hn : n < i
      · rw [List.getElem?_take, if_pos hn, List.getElem?_zipIdx, List.getElem?_zipIdx, List.getElem?_take, if_pos hn]
      · rw [List.getElem?_take, if_neg hn, List.getElem?_zipIdx, List.getElem?_take, if_neg hn]; rfl
    rw [hz] at bu
    subst hQ
    have C : Ch κ' (fun c => c = κ b) k (k.setIfInBounds b (.cells (qcells 0 r first q) 0 true [])) := ⟨k3.1, fun c hc hn => k3.get hc (by
      rw [List.mem_singleton]
      rintro rfl
      exact hn (ag c (by omega)))⟩
    have hbn : ∀ kd i k, κ b ≠ .ans jj kd i k := fun kd i k => hfr b (by omega) kd i k
    refine Ans.of ⟨s3, (k1.trans (kk.of_nil.trans k3)), κ', ag, ?_, ?_⟩
    · intro c hc
      rcases nw c hc with e | ⟨kd, k', i', _, e⟩
      · exact ⟨_, _, _, e⟩
      · exact ⟨_, _, _, e⟩
    · exact bu.tr C (fun e => hbn _ _ _ e.symm) (Agr.refl _ _) (fun cs n y _ q => q.tr C (fun kd m _ e => hbn _ _ _ e.symm) (Agr.refl _ _))

end Go.Proofs.Ytkkagpchcefidaa

/- QueueOwn: own; one list of tags, one of nodes, written full. -/
set_option linter.unusedSimpArgs false
set_option linter.unusedVariables false
namespace Go.Ev

theorem rep_set {α : Type} (a b : α) {n i : Nat} (hi : i < n) : (List.replicate i a ++ List.replicate (n - i) b).set i a = List.replicate (i + 1) a ++ List.replicate (n - (i + 1)) b := by
  obtain ⟨k, rfl⟩ : ∃ k, n = i + (k + 1) := ⟨n - i - 1, by omega⟩
  rw [show i + (k + 1) - i = k + 1 by omega, show i + (k + 1) - (i + 1) = k by omega, List.replicate_succ, List.replicate_succ', List.set_append, if_neg (by simp)]
  simp

/-- Nothing is claimed. -/
def anyC : List Value → Prop := fun _ => True

theorem BldA.anyC {α : Type} {ok : Nat → Prop} {w : Nat} {R : H → List Value → α → Prop} {h : H} {v : Value} {xs : List α} (s : BldA ok w R h v xs) : BldA ok w PrC h v (List.replicate xs.length Ev.anyC) :=
  s.to (Nat.le_refl _) (by simp) (fun _ _ q => q) (fun _ _ e _ => e) (fun cs i x y hx hy q => by
    have : y = Ev.anyC := by
      have := List.mem_of_getElem? hy
      exact (List.mem_replicate.1 this).2
    rw [this]; trivial)

end Go.Ev
namespace Go.Proofs.Ytkkagpchcefidaa
open Go.Ev

/-- The mark of a list within an answer. -/
def ownM (m i k : Int) : Int := m * 1000000 + i * 10000 + k

theorem own_eq {F : Nat} (hF : 1 ≤ F) (h : H) {m i k : Int} (hm : 0 ≤ m ∧ m ≤ 1000) (hi : 0 ≤ i ∧ i ≤ 1000) (hk : 0 ≤ k ∧ k ≤ 10000) : cf F 70 [.int .i64 m, .int .i64 i, .int .i64 k] h = some (.int .i64 (ownM m i k), h) := by
  obtain ⟨F, rfl⟩ : ∃ G, F = G + 1 := ⟨F - 1, by omega⟩
  rw [cf_step (a := a70) rfl rfl (by simp [a70])]
  have e : IntKind.i64.wrap (IntKind.i64.wrap (IntKind.i64.wrap (m * 1000000) + IntKind.i64.wrap (i * 10000)) + k) = ownM m i k := by
    rw [IntKind.wrap_i64 (m * 1000000), IntKind.wrap_i64 (i * 10000)]
    rw [show (m * 1000000 + 9223372036854775808) % 18446744073709551616 - 9223372036854775808 = m * 1000000 by omega, show (i * 10000 + 9223372036854775808) % 18446744073709551616 - 9223372036854775808 = i * 10000 by omega]
    rw [show IntKind.i64.wrap (m * 1000000 + i * 10000) = m * 1000000 + i * 10000 from wrap_in (by omega) (by omega), wrap_in (by omega) (by omega)]
    rfl
  simp (disch := first | omega | (simp only [newRow_size, Array.size_setIfInBounds, Array.size_push]; done) | (simp only [newRow_size, Array.size_setIfInBounds, Array.size_push]; omega)) [a70, r70_0, r70_1, e]

def R1t (m : Int) : List Value → Prop := fun cs => cs = [.int .i64 m]
def R1n (m : Int) : List Value → Prop := fun cs => cs = [.string { data := #[] }, .string { data := #[] }, .int .i64 m]

def tgIn : ACode := (.seq (.region r65_8 [0, 1, 4, 5, 6, 7, 8, 9, 10]) (.block 4 (.loop [0, 1, 4, 5, 6, 7, 8, 9, 10] l65_12)))
def ndIn : ACode := (.seq (.region r65_20 [0, 1, 4, 5, 6, 7, 11, 12, 13]) (.block 8 (.loop [0, 1, 4, 5, 6, 7, 11, 12, 13] l65_24)))

set_option maxHeartbeats 1000000 in
theorem tgIn_spec {F : Nat} (hF : 100 ≤ F) {κ : Kp} {col : Col} {g : H} {tv v0 v4 v5 v7 : Value} {n : Nat} (hn : n ≤ 24) {m i k : Nat} (hm : m ≤ 1000) (hi : i ≤ 1000) (hk : k ≤ 10000) (s : BldA (fun c => κ c = col) 1 PrC g tv (List.replicate n anyC)) {re : Env}
    {kn kr : K} {ke : Nat → K} {Q : Value → H → Prop}
    (hkn : ∀ g' (e : Env), Ch κ (· = col) g g' → BldA (fun c => κ c = col) 1 PrC g' tv (List.replicate n (R1t (ownM m i k))) → Ans (kn ((0, v0) :: (1, .int .i64 m) :: (4, v4) :: (5, v5) :: (6, .int .i64 i) :: (7, v7) :: (8, .int .i64 k) :: (9, tv) :: e) g' []) Q) :
    Ans (evC F (cf F) tgIn kn ke kr ((0, v0) :: (1, .int .i64 m) :: (4, v4) :: (5, v5) :: (6, .int .i64 i) :: (7, v7) :: (8, .int .i64 k) :: (9, tv) :: re) g []) Q := by
  simp (disch := first | omega | (simp only [newRow_size, Array.size_setIfInBounds, Array.size_push]; done) | (simp only [newRow_size, Array.size_setIfInBounds, Array.size_push]; omega)) [tgIn, r65_8]
  refine loop_rule (fun mm e g' => ∃ (t : Nat), mm = n - t ∧ t ≤ n ∧ e = [(0, v0), (1, .int .i64 m), (4, v4), (5, v5), (6, .int .i64 i), (7, v7), (8, .int .i64 k), (9, tv), (10, .int .i64 t)] ∧ Ch κ (· = col) g g' ∧ BldA (fun c => κ c = col) 1 PrC g' tv (List.replicate t (R1t (ownM m i k)) ++ List.replicate (n - t) anyC)) ?_ _ n _ _ (by omega) ⟨0, by omega, by omega, rfl, Ch.refl _ _ _, by simpa using s⟩
  rintro mm e g' again ⟨t, rfl, ht, rfl, kg, b⟩ ih
  have hw : IntKind.i64.wrap ((t : Int) + 1) = ((t + 1 : Nat) : Int) := by rw [IntKind.wrap_i64]; omega
  have hln : (List.replicate t (R1t (ownM m i k)) ++ List.replicate (n - t) anyC).length = n := by simp; omega
  have hl := b.sl.len
  rw [hln] at hl
  by_cases hlt : t < n
  · have htc : (t : Int) < (n : Int) := by omega
    have ho := own_eq (F := F) (by omega) g' (m := m) (i := i) (k := k) (by omega) (by omega) (by omega)
    obtain ⟨bb, cs, an, h', e1, e2, e3, e4, e5, e6, e7, e8, e9⟩ := b.put (i := t) (o := 0) (x := anyC) (by rw [List.getElem?_append_right (by simp), List.getElem?_replicate, if_pos (by simp; omega)]) (new := [.int .i64 (ownM m i k)]) (by simp) rfl
    rw [Nat.add_zero, Nat.mul_one] at e6
    rw [hln] at e1
    subst e1
    simp (disch := first | omega | (simp only [newRow_size, Array.size_setIfInBounds, Array.size_push]; done) | (simp only [newRow_size, Array.size_setIfInBounds, Array.size_push]; omega)) [l65_12, r65_9, r65_10, r65_11, htc, eqT, eqF, neT, neF, ltT, ltF, leT, leF, nltT, nltF, nleT, nleF, nneT, nneF, List.getElem?_cons_zero, List.getElem?_cons_succ, callV_fn, ho, -wr, hlt, e6, hw]
    have kg' : Ch κ (· = col) g' h' := ⟨by omega, fun c hc hn => e8.2 c hc hn⟩
    refine ih (n - (t + 1)) _ _ (by omega) ⟨t + 1, rfl, by omega, rfl, kg.trans kg' (Agr.refl _ _), ?_⟩
    have := e9 (R2 := PrC) (R1t (ownM m i k)) (fun _ _ _ _ _ q => q) (by
      show R1t _ _
      have h5 : ((cs.drop (t * 1)).take 1).length = 1 := by rw [List.length_take, List.length_drop]; omega
      simp only [R1t, List.take_zero, List.nil_append, Nat.zero_add, List.length_cons, List.length_nil]
      rw [List.drop_of_length_le (by omega), List.append_nil])
    rw [rep_set _ _ hlt] at this
    exact this
  · have htn : t = n := by omega
    subst htn
    simp (disch := first | omega | (simp only [newRow_size, Array.size_setIfInBounds, Array.size_push]; done) | (simp only [newRow_size, Array.size_setIfInBounds, Array.size_push]; omega)) [l65_12, r65_9, hl, eqT, eqF, neT, neF, ltT, ltF, leT, leF, nltT, nltF, nleT, nleF, nneT, nneF, List.getElem?_cons_zero, List.getElem?_cons_succ]
    refine hkn g' _ kg ?_
    simpa using b

set_option maxHeartbeats 1000000 in
theorem ndIn_spec {F : Nat} (hF : 100 ≤ F) {κ : Kp} {col : Col} {g : H} {tv v0 v4 v5 v7 : Value} {n : Nat} (hn : n ≤ 24) {m i k : Nat} (hm : m ≤ 1000) (hi : i ≤ 1000) (hk : k ≤ 10000) (s : BldA (fun c => κ c = col) 3 PrC g tv (List.replicate n anyC)) {re : Env}
    {kn kr : K} {ke : Nat → K} {Q : Value → H → Prop}
    (hkn : ∀ g' (e : Env), Ch κ (· = col) g g' → BldA (fun c => κ c = col) 3 PrC g' tv (List.replicate n (R1n (ownM m i k))) → Ans (kn ((0, v0) :: (1, .int .i64 m) :: (4, v4) :: (5, v5) :: (6, .int .i64 i) :: (7, v7) :: (11, .int .i64 k) :: (12, tv) :: e) g' []) Q) :
    Ans (evC F (cf F) ndIn kn ke kr ((0, v0) :: (1, .int .i64 m) :: (4, v4) :: (5, v5) :: (6, .int .i64 i) :: (7, v7) :: (11, .int .i64 k) :: (12, tv) :: re) g []) Q := by
  simp (disch := first | omega | (simp only [newRow_size, Array.size_setIfInBounds, Array.size_push]; done) | (simp only [newRow_size, Array.size_setIfInBounds, Array.size_push]; omega)) [ndIn, r65_20]
  refine loop_rule (fun mm e g' => ∃ (t : Nat), mm = n - t ∧ t ≤ n ∧ e = [(0, v0), (1, .int .i64 m), (4, v4), (5, v5), (6, .int .i64 i), (7, v7), (11, .int .i64 k), (12, tv), (13, .int .i64 t)] ∧ Ch κ (· = col) g g' ∧ BldA (fun c => κ c = col) 3 PrC g' tv (List.replicate t (R1n (ownM m i k)) ++ List.replicate (n - t) anyC)) ?_ _ n _ _ (by omega) ⟨0, by omega, by omega, rfl, Ch.refl _ _ _, by simpa using s⟩
  rintro mm e g' again ⟨t, rfl, ht, rfl, kg, b⟩ ih
  have hw : IntKind.i64.wrap ((t : Int) + 1) = ((t + 1 : Nat) : Int) := by rw [IntKind.wrap_i64]; omega
  have hln : (List.replicate t (R1n (ownM m i k)) ++ List.replicate (n - t) anyC).length = n := by simp; omega
  have hl := b.sl.len
  rw [hln] at hl
  by_cases hlt : t < n
  · have htc : (t : Int) < (n : Int) := by omega
    have ho := own_eq (F := F) (by omega) g' (m := m) (i := i) (k := k) (by omega) (by omega) (by omega)
    obtain ⟨bb, cs, an, h', e1, e2, e3, e4, e5, e6, e7, e8, e9⟩ := b.put (i := t) (o := 0) (x := anyC) (by rw [List.getElem?_append_right (by simp), List.getElem?_replicate, if_pos (by simp; omega)]) (new := [.string { data := #[] }, .string { data := #[] }, .int .i64 (ownM m i k)]) (by simp) rfl
    rw [Nat.add_zero] at e6
    rw [hln] at e1
    subst e1
    simp (disch := first | omega | (simp only [newRow_size, Array.size_setIfInBounds, Array.size_push]; done) | (simp only [newRow_size, Array.size_setIfInBounds, Array.size_push]; omega)) [l65_24, r65_21, r65_22, r65_23, htc, eqT, eqF, neT, neF, ltT, ltF, leT, leF, nltT, nltF, nleT, nleF, nneT, nneF, List.getElem?_cons_zero, List.getElem?_cons_succ, callV_fn, ho, -wr, hlt, e6, hw]
    have kg' : Ch κ (· = col) g' h' := ⟨by omega, fun c hc hn => e8.2 c hc hn⟩
    refine ih (n - (t + 1)) _ _ (by omega) ⟨t + 1, rfl, by omega, rfl, kg.trans kg' (Agr.refl _ _), ?_⟩
    have := e9 (R2 := PrC) (R1n (ownM m i k)) (fun _ _ _ _ _ q => q) (by
      show R1n _ _
      have h5 : ((cs.drop (t * 3)).take 3).length = 3 := by rw [List.length_take, List.length_drop]; omega
      simp only [R1n, List.take_zero, List.nil_append, Nat.zero_add, List.length_cons, List.length_nil]
      rw [List.drop_of_length_le (by omega), List.append_nil])
    rw [rep_set _ _ hlt] at this
    exact this
  · have htn : t = n := by omega
    subst htn
    simp (disch := first | omega | (simp only [newRow_size, Array.size_setIfInBounds, Array.size_push]; done) | (simp only [newRow_size, Array.size_setIfInBounds, Array.size_push]; omega)) [l65_24, r65_21, hl, eqT, eqF, neT, neF, ltT, ltF, leT, leF, nltT, nltF, nleT, nleF, nneT, nneF, List.getElem?_cons_zero, List.getElem?_cons_succ]
    refine hkn g' _ kg ?_
    simpa using b

end Go.Proofs.Ytkkagpchcefidaa

/- QueueOwn: what full and kept keep of an answer's lists. -/
set_option linter.unusedSimpArgs false
set_option linter.unusedVariables false
namespace Go.Proofs.Ytkkagpchcefidaa
open Go.Ev

/-- A list of the book: where its row lies, how many it had, its mark. -/
structure Ent where
  col : Col
  n : Nat
  mr : Int

/-- An entry and how many were put behind its list. -/
def EntC (κ : Kp) (w : Nat) (R1 : Int → List Value → Prop) (R2 : Int → Nat → List Value → Prop) (g : H) (cs : List Value) (x : Ent × Nat) : Prop :=
  ∃ v, cs = [v, .int .i64 x.1.n, .int .i64 x.1.mr] ∧ BldA (fun c => κ c = x.1.col) w PrC g v (List.replicate x.1.n (R1 x.1.mr) ++ (List.range x.2).map (R2 x.1.mr))

theorem EntC.tr {κ κ' : Kp} {S : Col → Prop} {w : Nat} {R1 : Int → List Value → Prop} {R2 : Int → Nat → List Value → Prop} {g g' : H} {cs : List Value} {x : Ent × Nat} (s : EntC κ w R1 R2 g cs x) (k : Ch κ S g g') (hS : ¬ S x.1.col) (hk : Agr g.size κ κ') : EntC κ' w R1 R2 g' cs x := by
  obtain ⟨v, e, b⟩ := s
  exact ⟨v, e, b.tr k hS hk (fun _ _ _ _ q => q)⟩

def R2t (m : Int) (_ : Nat) : List Value → Prop := fun cs => cs = [.int .i64 (-m)]
def R2n (m : Int) (_ : Nat) : List Value → Prop := fun cs => cs = [.string { data := #[] }, .string { data := #[] }, .int .i64 (-m)]
def R1c (m : Int) : List Value → Prop := fun cs => ∃ v, cs = [.int .i64 0, .string { data := #[] }, .string { data := #[] }, .int .i64 m, v]
def R2c (m : Int) (q : Nat) : List Value → Prop := fun cs => cs = [.int .i64 q, .string { data := #[] }, .string { data := #[] }, .int .i64 (-m), .slice none 0 0]
def R1p (m : Int) : List Value → Prop := fun cs => ∃ a b c d, cs = [.int .i64 m, a, b, c, d]
def R2p (m : Int) (q : Nat) : List Value → Prop := fun cs => cs = [.int .i64 (-m - q), .int .i64 0, .string { data := #[] }, .int .i64 0, .slice none 0 0]
def R1i (m : Int) : List Value → Prop := fun cs => ∃ a b c d, cs = [.int .i64 m, a, b, c, d]
def R2i (m : Int) (q : Nat) : List Value → Prop := fun cs => cs = [.int .i64 m, .int .i64 (q + 1), .bool false, .slice none 0 0, .slice none 0 0]

/-- The book while it is made. -/
structure FB (κ : Kp) (j : Nat) (g : H) (kb : Nat) (v0 gv C P T N : Value) (m : Int) (eC eP eT eN : List (Ent × Nat)) : Prop where
  kbc : hget g kb = some (.cells [v0, gv, C, P, T, N, .int .i64 m] 0 true [])
  kbk : κ kb = .bk 1
  bC : BldA (fun c => κ c = .ans j 7 0 0) 3 (EntC κ 5 R1c R2c) g C eC
  bP : BldA (fun c => κ c = .ans j 8 0 0) 3 (EntC κ 5 R1p R2p) g P eP
  bT : BldA (fun c => κ c = .ans j 5 0 0) 3 (EntC κ 1 R1t R2t) g T eT
  bN : BldA (fun c => κ c = .ans j 6 0 0) 3 (EntC κ 3 R1n R2n) g N eN

/-- Each list's row is of this kind. -/
def Kinds (j kd : Nat) (es : List (Ent × Nat)) : Prop := ∀ x ∈ es, ∃ i k, x.1.col = .ans j kd i k

theorem _root_.Go.Ev.BldA.ents {κ κ' : Kp} {S : Col → Prop} {col : Col} {w : Nat} {R1 : Int → List Value → Prop} {R2 : Int → Nat → List Value → Prop} {g g' : H} {v : Value} {es : List (Ent × Nat)} (s : BldA (fun c => κ c = col) 3 (EntC κ w R1 R2) g v es) (k : Ch κ S g g') (hS : ¬ S col) (hE : ∀ x ∈ es, ¬ S x.1.col) (hk : Agr g.size κ κ') :
    BldA (fun c => κ' c = col) 3 (EntC κ' w R1 R2) g' v es :=
  s.tr k hS hk (fun cs i x hx q => q.tr k (hE x (List.mem_of_getElem? hx)) hk)

theorem FB.tr {κ κ' : Kp} {S : Col → Prop} {j : Nat} {g g' : H} {kb : Nat} {v0 gv C P T N : Value} {m : Int} {eC eP eT eN : List (Ent × Nat)} (s : FB κ j g kb v0 gv C P T N m eC eP eT eN) (k : Ch κ S g g') (hk : Agr g.size κ κ')
    (h1 : ¬ S (.bk 1)) (h2 : ∀ kd, 5 ≤ kd → ¬ S (.ans j kd 0 0)) (hC : ∀ x ∈ eC, ¬ S x.1.col) (hP : ∀ x ∈ eP, ¬ S x.1.col) (hT : ∀ x ∈ eT, ¬ S x.1.col) (hN : ∀ x ∈ eN, ¬ S x.1.col) : FB κ' j g' kb v0 gv C P T N m eC eP eT eN :=
  ⟨k.get s.kbc (by rw [s.kbk]; exact h1), (hk kb (lt_of_get s.kbc)).trans s.kbk, s.bC.ents k (h2 7 (by omega)) hC hk, s.bP.ents k (h2 8 (by omega)) hP hk, s.bT.ents k (h2 5 (by omega)) hT hk, s.bN.ents k (h2 6 (by omega)) hN hk⟩

/-- One entry put behind. -/
theorem app_ent {κ : Kp} {col : Col} {w : Nat} {R1 : Int → List Value → Prop} {R2 : Int → Nat → List Value → Prop} {g : H} {V tv : Value} {es : List (Ent × Nat)} (s : BldA (fun c => κ c = col) 3 (EntC κ w R1 R2) g V es) (e : Ent)
    (b : BldA (fun c => κ c = e.col) w PrC g tv (List.replicate e.n (R1 e.mr))) (hE : ∀ x ∈ es, x.1.col ≠ col) (he : e.col ≠ col) (hb : es.length ≤ 100000) :
    Ans (appendTo (Ev.newRow g [tv, .int .i64 e.n, .int .i64 e.mr] 3 []) 3 40 V 1 [tv, .int .i64 e.n, .int .i64 e.mr]) fun V' g' => BldA (fun c => ext κ g.size col c = col) 3 (EntC (ext κ g.size col) w R1 R2) g' V' (es ++ [(e, 0)]) ∧ Ch κ (· = col) g g' ∧ KeptC g g' [] := by
  have a : Agr g.size κ (ext κ g.size col) := Agr.ext (Nat.le_refl _)
  exact s.app (x := (e, 0)) (bytes := 40) rfl (by omega) (fun h' k cs i y hy q => q.tr k (hE y (List.mem_of_getElem? hy)) a) (fun h' k => ⟨tv, rfl, by simpa using b.tr k he a (fun _ _ _ _ q => q)⟩)

/-- What one entry more leaves, once it stands in the book. -/
def Added (κ : Kp) (j kd : Nat) (g : H) (kb : Nat) (cs : List Value) (Q : Kp → Value → H → Prop) (at' : Nat) (V' : Value) (g1 : H) : Prop :=
  oneCell V' = true ∧ vcells V' = some [V'] ∧ hget g1 kb = some (.cells cs 0 true []) ∧ ∃ κ', Agr g.size κ κ' ∧ Ch κ (fun c => c = .ans j kd 0 0 ∨ c = .bk 1) g (g1.setIfInBounds kb (.cells (cs.set at' V') 0 true [])) ∧ Q κ' V' (g1.setIfInBounds kb (.cells (cs.set at' V') 0 true []))

section
variable {κ : Kp} {j : Nat} {g : H} {kb : Nat} {v0 gv C P T N tv : Value} {m : Int} {eC eP eT eN : List (Ent × Nat)}

theorem kb_store {κ' : Kp} {g1 : H} {cs cs' : List Value} {S : Col → Prop} (hg : hget g kb = some (.cells cs 0 true [])) (hk : κ kb = .bk 1) (a : Agr g.size κ κ') (c : Ch κ S g g1) (hS : ¬ S (.bk 1)) :
    hget g1 kb = some (.cells cs 0 true []) ∧ Ch κ' (· = .bk 1) g1 (g1.setIfInBounds kb (.cells cs' 0 true [])) ∧ κ' kb = .bk 1 ∧ hget (g1.setIfInBounds kb (.cells cs' 0 true [])) kb = some (.cells cs' 0 true []) := by
  have h1 := c.get hg (by rw [hk]; exact hS)
  have h2 := (a kb (lt_of_get hg)).trans hk
  exact ⟨h1, ⟨by simp, fun d hd hn => set_other (fun e => hn (by rw [← e]; exact h2))⟩, h2, set_self rfl (lt_of_get h1)⟩

theorem FB.addT (s : FB κ j g kb v0 gv C P T N m eC eP eT eN) (kC : Kinds j 1 eC) (kP : Kinds j 2 eP) (kT : Kinds j 3 eT) (kN : Kinds j 4 eN) {i k n : Nat} {mk : Int} (b : BldA (fun c => κ c = .ans j 3 i k) 1 PrC g tv (List.replicate n (R1t mk))) (hb : eT.length ≤ 100000) :
    Ans (appendTo (Ev.newRow g [tv, .int .i64 n, .int .i64 mk] 3 []) 3 40 T 1 [tv, .int .i64 n, .int .i64 mk]) (Added κ j 5 g kb [v0, gv, C, P, T, N, .int .i64 m] (fun κ' T' g2 => FB κ' j g2 kb v0 gv C P T' N m eC eP (eT ++ [(⟨.ans j 3 i k, n, mk⟩, 0)]) eN) 4) := by
  have ne : ∀ {kd : Nat} {es : List (Ent × Nat)}, Kinds j kd es → kd ≠ 5 → ∀ x ∈ es, x.1.col ≠ .ans j 5 0 0 := by
    intro kd es h hne x hx
    obtain ⟨i, k, e⟩ := h x hx
    rw [e]; intro e; injection e with _ e; exact hne e
  have nb : ∀ {kd : Nat} {es : List (Ent × Nat)}, Kinds j kd es → ∀ x ∈ es, x.1.col ≠ .bk 1 := by
    intro kd es h x hx
    obtain ⟨i, k, e⟩ := h x hx
    rw [e]; simp
  refine (app_ent s.bT ⟨.ans j 3 i k, n, mk⟩ b (ne kT (by omega)) (by simp) hb).mono ?_
  rintro T' g1 ⟨b1, c1, _⟩
  have a : Agr g.size κ (ext κ g.size (.ans j 5 0 0)) := Agr.ext (Nat.le_refl _)
  generalize ext κ g.size (.ans j 5 0 0) = κ1 at a b1
  obtain ⟨q1, q2, q3, q4⟩ := kb_store (cs' := [v0, gv, C, P, T', N, .int .i64 m]) s.kbc s.kbk a c1 (by simp)
  refine ⟨b1.sl.one, b1.sl.vc, q1, κ1, a, (c1.weak (fun c h => .inl h)).trans (κ' := κ1) (q2.weak (fun c h => .inr h)) a, q4, q3, ?_, ?_, ?_, ?_⟩
  · exact (s.bC.ents c1 (by simp) (ne kC (by omega)) a).ents q2 (by simp) (nb kC) (Agr.refl _ _)
  · exact (s.bP.ents c1 (by simp) (ne kP (by omega)) a).ents q2 (by simp) (nb kP) (Agr.refl _ _)
  · refine b1.ents q2 (by simp) (fun x hx => ?_) (Agr.refl _ _)
    rcases List.mem_append.1 hx with hx | hx
    · exact nb kT x hx
    · rw [List.mem_singleton.1 hx]; simp
  · exact (s.bN.ents c1 (by simp) (ne kN (by omega)) a).ents q2 (by simp) (nb kN) (Agr.refl _ _)

theorem FB.addN (s : FB κ j g kb v0 gv C P T N m eC eP eT eN) (kC : Kinds j 1 eC) (kP : Kinds j 2 eP) (kT : Kinds j 3 eT) (kN : Kinds j 4 eN) {i k n : Nat} {mk : Int} (b : BldA (fun c => κ c = .ans j 4 i k) 3 PrC g tv (List.replicate n (R1n mk))) (hb : eN.length ≤ 100000) :
    Ans (appendTo (Ev.newRow g [tv, .int .i64 n, .int .i64 mk] 3 []) 3 40 N 1 [tv, .int .i64 n, .int .i64 mk]) (Added κ j 6 g kb [v0, gv, C, P, T, N, .int .i64 m] (fun κ' T' g2 => FB κ' j g2 kb v0 gv C P T T' m eC eP eT (eN ++ [(⟨.ans j 4 i k, n, mk⟩, 0)])) 5) := by
  have ne : ∀ {kd : Nat} {es : List (Ent × Nat)}, Kinds j kd es → kd ≠ 6 → ∀ x ∈ es, x.1.col ≠ .ans j 6 0 0 := by
    intro kd es h hne x hx
    obtain ⟨i, k, e⟩ := h x hx
    rw [e]; intro e; injection e with _ e; exact hne e
  have nb : ∀ {kd : Nat} {es : List (Ent × Nat)}, Kinds j kd es → ∀ x ∈ es, x.1.col ≠ .bk 1 := by
    intro kd es h x hx
    obtain ⟨i, k, e⟩ := h x hx
    rw [e]; simp
  refine (app_ent s.bN ⟨.ans j 4 i k, n, mk⟩ b (ne kN (by omega)) (by simp) hb).mono ?_
  rintro T' g1 ⟨b1, c1, _⟩
  have a : Agr g.size κ (ext κ g.size (.ans j 6 0 0)) := Agr.ext (Nat.le_refl _)
  generalize ext κ g.size (.ans j 6 0 0) = κ1 at a b1
  obtain ⟨q1, q2, q3, q4⟩ := kb_store (cs' := [v0, gv, C, P, T, T', .int .i64 m]) s.kbc s.kbk a c1 (by simp)
  refine ⟨b1.sl.one, b1.sl.vc, q1, κ1, a, (c1.weak (fun c h => .inl h)).trans (κ' := κ1) (q2.weak (fun c h => .inr h)) a, q4, q3, ?_, ?_, ?_, ?_⟩
  · exact (s.bC.ents c1 (by simp) (ne kC (by omega)) a).ents q2 (by simp) (nb kC) (Agr.refl _ _)
  · exact (s.bP.ents c1 (by simp) (ne kP (by omega)) a).ents q2 (by simp) (nb kP) (Agr.refl _ _)
  · exact (s.bT.ents c1 (by simp) (ne kT (by omega)) a).ents q2 (by simp) (nb kT) (Agr.refl _ _)
  · refine b1.ents q2 (by simp) (fun x hx => ?_) (Agr.refl _ _)
    rcases List.mem_append.1 hx with hx | hx
    · exact nb kN x hx
    · rw [List.mem_singleton.1 hx]; simp

theorem FB.addC (s : FB κ j g kb v0 gv C P T N m eC eP eT eN) (kC : Kinds j 1 eC) (kP : Kinds j 2 eP) (kT : Kinds j 3 eT) (kN : Kinds j 4 eN) {i k n : Nat} {mk : Int} (b : BldA (fun c => κ c = .ans j 1 i k) 5 PrC g tv (List.replicate n (R1c mk))) (hb : eC.length ≤ 100000) :
    Ans (appendTo (Ev.newRow g [tv, .int .i64 n, .int .i64 mk] 3 []) 3 40 C 1 [tv, .int .i64 n, .int .i64 mk]) (Added κ j 7 g kb [v0, gv, C, P, T, N, .int .i64 m] (fun κ' T' g2 => FB κ' j g2 kb v0 gv T' P T N m (eC ++ [(⟨.ans j 1 i k, n, mk⟩, 0)]) eP eT eN) 2) := by
  have ne : ∀ {kd : Nat} {es : List (Ent × Nat)}, Kinds j kd es → kd ≠ 7 → ∀ x ∈ es, x.1.col ≠ .ans j 7 0 0 := by
    intro kd es h hne x hx
    obtain ⟨i, k, e⟩ := h x hx
    rw [e]; intro e; injection e with _ e; exact hne e
  have nb : ∀ {kd : Nat} {es : List (Ent × Nat)}, Kinds j kd es → ∀ x ∈ es, x.1.col ≠ .bk 1 := by
    intro kd es h x hx
    obtain ⟨i, k, e⟩ := h x hx
    rw [e]; simp
  refine (app_ent s.bC ⟨.ans j 1 i k, n, mk⟩ b (ne kC (by omega)) (by simp) hb).mono ?_
  rintro T' g1 ⟨b1, c1, _⟩
  have a : Agr g.size κ (ext κ g.size (.ans j 7 0 0)) := Agr.ext (Nat.le_refl _)
  generalize ext κ g.size (.ans j 7 0 0) = κ1 at a b1
  obtain ⟨q1, q2, q3, q4⟩ := kb_store (cs' := [v0, gv, T', P, T, N, .int .i64 m]) s.kbc s.kbk a c1 (by simp)
  refine ⟨b1.sl.one, b1.sl.vc, q1, κ1, a, (c1.weak (fun c h => .inl h)).trans (κ' := κ1) (q2.weak (fun c h => .inr h)) a, q4, q3, ?_, ?_, ?_, ?_⟩
  · refine b1.ents q2 (by simp) (fun x hx => ?_) (Agr.refl _ _)
    rcases List.mem_append.1 hx with hx | hx
    · exact nb kC x hx
    · rw [List.mem_singleton.1 hx]; simp
  · exact (s.bP.ents c1 (by simp) (ne kP (by omega)) a).ents q2 (by simp) (nb kP) (Agr.refl _ _)
  · exact (s.bT.ents c1 (by simp) (ne kT (by omega)) a).ents q2 (by simp) (nb kT) (Agr.refl _ _)
  · exact (s.bN.ents c1 (by simp) (ne kN (by omega)) a).ents q2 (by simp) (nb kN) (Agr.refl _ _)

theorem FB.addP (s : FB κ j g kb v0 gv C P T N m eC eP eT eN) (kC : Kinds j 1 eC) (kP : Kinds j 2 eP) (kT : Kinds j 3 eT) (kN : Kinds j 4 eN) {i k n : Nat} {mk : Int} (b : BldA (fun c => κ c = .ans j 2 i k) 5 PrC g tv (List.replicate n (R1p mk))) (hb : eP.length ≤ 100000) :
    Ans (appendTo (Ev.newRow g [tv, .int .i64 n, .int .i64 mk] 3 []) 3 40 P 1 [tv, .int .i64 n, .int .i64 mk]) (Added κ j 8 g kb [v0, gv, C, P, T, N, .int .i64 m] (fun κ' T' g2 => FB κ' j g2 kb v0 gv C T' T N m eC (eP ++ [(⟨.ans j 2 i k, n, mk⟩, 0)]) eT eN) 3) := by
  have ne : ∀ {kd : Nat} {es : List (Ent × Nat)}, Kinds j kd es → kd ≠ 8 → ∀ x ∈ es, x.1.col ≠ .ans j 8 0 0 := by
    intro kd es h hne x hx
    obtain ⟨i, k, e⟩ := h x hx
    rw [e]; intro e; injection e with _ e; exact hne e
  have nb : ∀ {kd : Nat} {es : List (Ent × Nat)}, Kinds j kd es → ∀ x ∈ es, x.1.col ≠ .bk 1 := by
    intro kd es h x hx
    obtain ⟨i, k, e⟩ := h x hx
    rw [e]; simp
  refine (app_ent s.bP ⟨.ans j 2 i k, n, mk⟩ b (ne kP (by omega)) (by simp) hb).mono ?_
  rintro T' g1 ⟨b1, c1, _⟩
  have a : Agr g.size κ (ext κ g.size (.ans j 8 0 0)) := Agr.ext (Nat.le_refl _)
  generalize ext κ g.size (.ans j 8 0 0) = κ1 at a b1
  obtain ⟨q1, q2, q3, q4⟩ := kb_store (cs' := [v0, gv, C, T', T, N, .int .i64 m]) s.kbc s.kbk a c1 (by simp)
  refine ⟨b1.sl.one, b1.sl.vc, q1, κ1, a, (c1.weak (fun c h => .inl h)).trans (κ' := κ1) (q2.weak (fun c h => .inr h)) a, q4, q3, ?_, ?_, ?_, ?_⟩
  · exact (s.bC.ents c1 (by simp) (ne kC (by omega)) a).ents q2 (by simp) (nb kC) (Agr.refl _ _)
  · refine b1.ents q2 (by simp) (fun x hx => ?_) (Agr.refl _ _)
    rcases List.mem_append.1 hx with hx | hx
    · exact nb kP x hx
    · rw [List.mem_singleton.1 hx]; simp
  · exact (s.bT.ents c1 (by simp) (ne kT (by omega)) a).ents q2 (by simp) (nb kT) (Agr.refl _ _)
  · exact (s.bN.ents c1 (by simp) (ne kN (by omega)) a).ents q2 (by simp) (nb kN) (Agr.refl _ _)

end

end Go.Proofs.Ytkkagpchcefidaa

/- QueueOwn: the changes of one item, written full. -/
set_option linter.unusedSimpArgs false
set_option linter.unusedVariables false
namespace Go.Proofs.Ytkkagpchcefidaa
open Go.Ev

theorem _root_.Go.Ev.BldA.row {α : Type} {ok : Nat → Prop} {w : Nat} {R : H → List Value → α → Prop} {h : H} {v : Value} {xs : List α} (s : BldA ok w R h v xs) {i : Nat} {x : α} (hx : xs[i]? = some x) :
    ∃ b cs an, v = .slice (some ⟨b, 0, none⟩) xs.length xs.length ∧ ok b ∧ hget h b = some (.cells cs w true an) ∧ i * w + w ≤ cs.length ∧ R h ((cs.drop (i * w)).take w) x := by
  have hil := (List.getElem?_eq_some_iff.1 hx).1
  rcases s with ⟨_, e'⟩ | ⟨b, cs, an, e, hk, ha, hg, hl, hi⟩
  · subst e'; simp at hil
  · have h1 : (i + 1) * w ≤ xs.length * w := Nat.mul_le_mul_right _ hil
    rw [Nat.add_mul] at h1
    exact ⟨b, cs, an, e, hk, hg, by omega, hi i x hx⟩

theorem get5 {cs : List Value} {n : Nat} {a b c d e : Value} (h : (cs.drop n).take 5 = [a, b, c, d, e]) : (cs.drop n).take 1 = [a] ∧ (cs.drop (n + 3)).take 1 = [d] ∧ (cs.drop (n + 4)).take 1 = [e] ∧ (cs.drop n).take 4 = [a, b, c, d] := by
  have h3 := congrArg (List.drop 3) h
  have h4 := congrArg (List.drop 4) h
  rw [List.drop_take, List.drop_drop] at h3 h4
  have h1 := congrArg (List.take 1) h
  have h5 := congrArg (List.take 4) h
  have h6 := congrArg (List.take 1) h3
  rw [List.take_take] at h1 h5 h6
  exact ⟨by simpa using h1, by simpa using h6, by simpa using h4, by simpa using h5⟩
theorem get3 {cs : List Value} {n : Nat} {a b c : Value} (h : (cs.drop n).take 3 = [a, b, c]) : (cs.drop n).take 1 = [a] ∧ (cs.drop (n + 1)).take 1 = [b] ∧ (cs.drop (n + 2)).take 1 = [c] := by
  have h3 := congrArg (List.drop 1) h
  have h4 := congrArg (List.drop 2) h
  rw [List.drop_take, List.drop_drop] at h3 h4
  have h1 := congrArg (List.take 1) h
  have h6 := congrArg (List.take 1) h3
  rw [List.take_take] at h1 h6
  exact ⟨by simpa using h1, by simpa using h6, by simpa using h4⟩

def five (cs : List Value) : Prop := ∃ a b c d e, cs = [a, b, c, d, e]

/-- Within a list of changes: those below lo are written, those from hi on are as they were. -/
def ChS (κ : Kp) (j i lo hi : Nat) (mk : Int) (g : H) (cs : List Value) (x : Tgd × Nat) : Prop := if x.2 < lo then R1c mk cs else if x.2 < hi then five cs else TgdO κ j i g cs x
def PrS (κ : Kp) (j i lo hi : Nat) (mk : Int) (g : H) (cs : List Value) (x : Prt × Nat) : Prop := if x.2 < lo then R1p mk cs else if x.2 < hi then five cs else PrtO κ j i g cs x
def ItS (κ : Kp) (j i : Nat) (vI wI : Value) (m : Int) (g : H) (cs : List Value) (x : Itm × Nat) : Prop := if x.2 < i then R1i m cs else if x.2 = i then ∃ a b c, cs = [a, b, c, vI, wI] else ItmO κ j g cs x

structure Rest (κ : Kp) (j : Nat) (g : H) (v0 : Value) (m : Int) (items : List Itm) (i : Nat) (vI wI : Value) (x : Itm) (lo hi lp hp : Nat) (mk : Int) : Prop where
  is : BldA (fun c => κ c = .ans j 0 0 0) 5 (ItS κ j i vI wI m) g v0 items.zipIdx
  cs : BldA (fun c => κ c = .ans j 1 i 0) 5 (ChS κ j i lo hi mk) g vI x.chgs.zipIdx
  ps : BldA (fun c => κ c = .ans j 2 i 0) 5 (PrS κ j i lp hp mk) g wI x.prts.zipIdx

section
variable {κ κ' : Kp} {S : Col → Prop} {j i lo hi lp hp : Nat} {g g' : H} {mk m : Int} {cs : List Value} {v0 vI wI : Value} {items : List Itm} {y : Itm}

theorem ChS.tr {x : Tgd × Nat} (s : ChS κ j i lo hi mk g cs x) (k : Ch κ S g g') (hS : ∀ k', hi ≤ k' → ¬ S (.ans j 3 i k')) (hk : Agr g.size κ κ') : ChS κ' j i lo hi mk g' cs x := by
  unfold ChS at s ⊢
  split at s
  · rename_i h; rw [if_pos h]; exact s
  · rename_i h
    rw [if_neg h]
    split at s
    · rename_i h'; rw [if_pos h']; exact s
    · rename_i h'; rw [if_neg h']; exact s.tr k (hS _ (by omega)) hk
theorem PrS.tr {x : Prt × Nat} (s : PrS κ j i lo hi mk g cs x) (k : Ch κ S g g') (hS : ∀ k', hi ≤ k' → ¬ S (.ans j 4 i k')) (hk : Agr g.size κ κ') : PrS κ' j i lo hi mk g' cs x := by
  unfold PrS at s ⊢
  split at s
  · rename_i h; rw [if_pos h]; exact s
  · rename_i h
    rw [if_neg h]
    split at s
    · rename_i h'; rw [if_pos h']; exact s
    · rename_i h'; rw [if_neg h']; exact s.tr k (hS _ (by omega)) hk
theorem ItS.tr {x : Itm × Nat} (s : ItS κ j i vI wI m g cs x) (k : Ch κ S g g') (hS : ∀ kd i' m', 1 ≤ kd → i < i' → ¬ S (.ans j kd i' m')) (hk : Agr g.size κ κ') : ItS κ' j i vI wI m g' cs x := by
  unfold ItS at s ⊢
  split at s
  · rename_i h; rw [if_pos h]; exact s
  · rename_i h
    rw [if_neg h]
    split at s
    · rename_i h'; rw [if_pos h']; exact s
    · rename_i h'; rw [if_neg h']; exact s.tr k (fun kd m' hk => hS kd _ m' hk (by omega)) hk

theorem isTr (s : BldA (fun c => κ c = .ans j 0 0 0) 5 (ItS κ j i vI wI m) g v0 items.zipIdx) (k : Ch κ S g g') (h0 : ¬ S (.ans j 0 0 0)) (hI : ∀ kd i' m', 1 ≤ kd → i < i' → ¬ S (.ans j kd i' m')) (hk : Agr g.size κ κ') :
    BldA (fun c => κ' c = .ans j 0 0 0) 5 (ItS κ' j i vI wI m) g' v0 items.zipIdx := s.tr k h0 hk (fun _ _ _ _ q => q.tr k hI hk)
theorem csTr (s : BldA (fun c => κ c = .ans j 1 i 0) 5 (ChS κ j i lo hi mk) g vI y.chgs.zipIdx) (k : Ch κ S g g') (h0 : ¬ S (.ans j 1 i 0)) (hT : ∀ k', hi ≤ k' → ¬ S (.ans j 3 i k')) (hk : Agr g.size κ κ') :
    BldA (fun c => κ' c = .ans j 1 i 0) 5 (ChS κ' j i lo hi mk) g' vI y.chgs.zipIdx := s.tr k h0 hk (fun _ _ _ _ q => q.tr k hT hk)
theorem psTr (s : BldA (fun c => κ c = .ans j 2 i 0) 5 (PrS κ j i lp hp mk) g wI y.prts.zipIdx) (k : Ch κ S g g') (h0 : ¬ S (.ans j 2 i 0)) (hT : ∀ k', hp ≤ k' → ¬ S (.ans j 4 i k')) (hk : Agr g.size κ κ') :
    BldA (fun c => κ' c = .ans j 2 i 0) 5 (PrS κ' j i lp hp mk) g' wI y.prts.zipIdx := s.tr k h0 hk (fun _ _ _ _ q => q.tr k hT hk)

theorem Rest.tr (s : Rest κ j g v0 m items i vI wI y lo hi lp hp mk) (k : Ch κ S g g') (hk : Agr g.size κ κ') (h0 : ¬ S (.ans j 0 0 0)) (h1 : ¬ S (.ans j 1 i 0)) (h2 : ¬ S (.ans j 2 i 0)) (hI : ∀ kd i' m', 1 ≤ kd → i < i' → ¬ S (.ans j kd i' m')) (hT : ∀ k', hi ≤ k' → ¬ S (.ans j 3 i k')) (hN : ∀ k', hp ≤ k' → ¬ S (.ans j 4 i k')) :
    Rest κ' j g' v0 m items i vI wI y lo hi lp hp mk :=
  ⟨isTr s.is k h0 hI hk, csTr s.cs k h1 hT hk, psTr s.ps k h2 hN hk⟩
end

/-- What has been put into the book so far: of elder items; of this one's changes those below kc, of its parts those below kp. -/
structure Past (j i kc kp : Nat) (eC eP eT eN : List (Ent × Nat)) : Prop where
  C : ∀ e ∈ eC, ∃ i', i' < i ∧ e.1.col = .ans j 1 i' 0
  P : ∀ e ∈ eP, ∃ i', i' < i ∧ e.1.col = .ans j 2 i' 0
  T : ∀ e ∈ eT, ∃ i' k', (i' < i ∨ i' = i ∧ k' < kc) ∧ e.1.col = .ans j 3 i' k'
  N : ∀ e ∈ eN, ∃ i' k', (i' < i ∨ i' = i ∧ k' < kp) ∧ e.1.col = .ans j 4 i' k'

theorem Past.kC {j i kc kp : Nat} {eC eP eT eN : List (Ent × Nat)} (s : Past j i kc kp eC eP eT eN) : Kinds j 1 eC := fun e h => by obtain ⟨i', _, q⟩ := s.C e h; exact ⟨_, _, q⟩
theorem Past.kP {j i kc kp : Nat} {eC eP eT eN : List (Ent × Nat)} (s : Past j i kc kp eC eP eT eN) : Kinds j 2 eP := fun e h => by obtain ⟨i', _, q⟩ := s.P e h; exact ⟨_, _, q⟩
theorem Past.kT {j i kc kp : Nat} {eC eP eT eN : List (Ent × Nat)} (s : Past j i kc kp eC eP eT eN) : Kinds j 3 eT := fun e h => by obtain ⟨i', _, _, q⟩ := s.T e h; exact ⟨_, _, q⟩
theorem Past.kN {j i kc kp : Nat} {eC eP eT eN : List (Ent × Nat)} (s : Past j i kc kp eC eP eT eN) : Kinds j 4 eN := fun e h => by obtain ⟨i', _, _, q⟩ := s.N e h; exact ⟨_, _, q⟩

/-- The colours that change while an answer is written full. -/
def own (j : Nat) : Col → Prop := fun c => c = .bk 1 ∨ ∃ kd i k, c = .ans j kd i k

def fT (j i : Nat) (m : Int) (l : List Tgd) : List (Ent × Nat) := l.zipIdx.map fun y => (⟨.ans j 3 i y.2, y.1.tags.length, ownM m i y.2⟩, 0)
def fN (j i : Nat) (m : Int) (l : List Prt) : List (Ent × Nat) := l.zipIdx.map fun y => (⟨.ans j 4 i y.2, y.1.nodes.length, ownM m i y.2⟩, 0)

def chIn : ACode := (.seq (.region r65_5 [0, 1, 4, 5, 6, 7, 8]) (.block 2 (.loop [0, 1, 4, 5, 6, 7, 8] l65_16)))
def chTail : ACode := (.seq (.regionD d65_13 [(1, [11])] [0, 1, 4, 5, 6, 7, 8]) (.region r65_14 [0, 1, 4, 5, 6, 7, 8]))
theorem l65_16_cut : l65_16 = (.seq (.seq (.region r65_6 [0, 1, 4, 5, 6, 7, 8, 34]) (.cond (.tmp 34) .skip (.exit 2))) (.seq (.block 3 (.seq (.region r65_7 [0, 1, 4, 5, 6, 7, 8, 9]) (.seq tgIn chTail))) (.region r65_15 [0, 1, 4, 5, 6, 7, 8]))) := rfl

set_option maxHeartbeats 4000000 in
theorem chIn_spec {F : Nat} (hF : 100 ≤ F) {κ : Kp} {j : Nat} {g : H} {kb : Nat} {v0 C P T N v4 vI wI : Value} {m : Nat} {eC eP eT eN : List (Ent × Nat)} {items : List Itm} {i : Nat} {x : Itm} (hx : items[i]? = some x) (hm : m ≤ 1000) (hil : items.length ≤ 100)
    (hch : x.chgs.length ≤ 24) (htg : ∀ t ∈ x.chgs, t.tags.length ≤ 24) (het : eT.length ≤ 10000) {mk : Int}
    (fb : FB κ j g kb v0 v0 C P T N m eC eP eT eN) (rs : Rest κ j g v0 m items i vI wI x 0 0 0 0 mk) (pa : Past j i 0 0 eC eP eT eN) {re : Env}
    {kn kr : K} {ke : Nat → K} {Q : Value → H → Prop}
    (hkn : ∀ g' κ' T' (e : Env), FB κ' j g' kb v0 v0 C P T' N m eC eP (eT ++ fT j i m x.chgs) eN → Rest κ' j g' v0 m items i vI wI x x.chgs.length x.chgs.length 0 0 mk → Past j i x.chgs.length 0 eC eP (eT ++ fT j i m x.chgs) eN → Agr g.size κ κ' → Ch κ (own j) g g' →
      Ans (kn ((0, v0) :: (1, .int .i64 m) :: (4, v4) :: (5, .pointer (some ⟨kb, 0, none⟩)) :: (6, .int .i64 i) :: (7, .int .i64 mk) :: e) g' []) Q) :
    Ans (evC F (cf F) chIn kn ke kr ((0, v0) :: (1, .int .i64 m) :: (4, v4) :: (5, .pointer (some ⟨kb, 0, none⟩)) :: (6, .int .i64 i) :: (7, .int .i64 mk) :: re) g []) Q := by
  have hi := (List.getElem?_eq_some_iff.1 hx).1
  simp (disch := first | omega | (simp only [newRow_size, Array.size_setIfInBounds, Array.size_push]; done) | (simp only [newRow_size, Array.size_setIfInBounds, Array.size_push]; omega)) [chIn, r65_5]
  refine loop_rule (fun mm e g' => ∃ (k : Nat) (κ' : Kp) (T' : Value) (eT' : List (Ent × Nat)), mm = x.chgs.length - k ∧ k ≤ x.chgs.length ∧ e = [(0, v0), (1, .int .i64 m), (4, v4), (5, .pointer (some ⟨kb, 0, none⟩)), (6, .int .i64 i), (7, .int .i64 mk), (8, .int .i64 k)] ∧ eT' = eT ++ (fT j i m x.chgs).take k ∧
      FB κ' j g' kb v0 v0 C P T' N m eC eP eT' eN ∧ Rest κ' j g' v0 m items i vI wI x k k 0 0 mk ∧ Past j i k 0 eC eP eT' eN ∧ Agr g.size κ κ' ∧ Ch κ (own j) g g') ?_ _ x.chgs.length _ _ (by omega)
    ⟨0, κ, T, eT, by omega, by omega, rfl, by simp, fb, rs, pa, Agr.refl _ _, Ch.refl _ _ _⟩
  clear fb rs pa
  rintro mm e g' again ⟨k, κ', T', eT', rfl, hk, rfl, heT, fb, rs, pa, ag, ch⟩ ih
  have hw : IntKind.i64.wrap ((k : Int) + 1) = ((k + 1 : Nat) : Int) := by rw [IntKind.wrap_i64]; omega
  have yg := ch.1
  have hfl : (fT j i m x.chgs).length = x.chgs.length := by simp [fT]
  -- the item, read
  obtain ⟨ba, csa, ana, rfl, hka, hga, hla, hra⟩ := rs.is.row (zip_at hx)
  simp only [ItS, Nat.lt_irrefl, if_false, if_true] at hra
  obtain ⟨a1, a2, a3, hra⟩ := hra
  obtain ⟨_, hv3, _, _⟩ := get5 hra
  have hgas := lt_of_get hga
  simp only [List.length_zipIdx] at *
  have hlc := rs.cs.sl.len
  simp only [List.length_zipIdx] at hlc
  by_cases hlt : k < x.chgs.length
  · obtain ⟨t, ht⟩ : ∃ t, x.chgs[k]? = some t := ⟨_, List.getElem?_eq_getElem hlt⟩
    have hkc : (k : Int) < (x.chgs.length : Int) := by omega
    have htl := htg t (List.mem_of_getElem? ht)
    obtain ⟨bc, csc, anc, rfl, hkc', hgc, hlcc, hrc⟩ := rs.cs.row (zip_at ht)
    simp only [ChS, Nat.lt_irrefl, if_false] at hrc
    obtain ⟨tv, hrc, bt⟩ := hrc
    obtain ⟨_, _, hv4, _⟩ := get5 hrc
    have hgcs := lt_of_get hgc
    simp only [List.length_zipIdx] at *
    simp (disch := first | omega | (simp only [newRow_size, Array.size_setIfInBounds, Array.size_push]; done) | (simp only [newRow_size, Array.size_setIfInBounds, Array.size_push]; omega)) [l65_16_cut, r65_6, hga, hla, hv3, hi, hkc, eqT, eqF, neT, neF, ltT, ltF, leT, leF, nltT, nltF, nleT, nleF, nneT, nneF, List.getElem?_cons_zero, List.getElem?_cons_succ, r65_7, hgc, hlcc, hv4, hlt]
    have btA := bt.anyC
    refine tgIn_spec (F := F) hF (n := t.tags.length) htl hm (by omega) (by omega) btA ?_
    intro g1 e1 C1 bt1
    -- the book and the lists behind the marks of the tags
    have fb1 := fb.tr C1 (Agr.refl _ _) (by simp) (by intro kd h e; injection e with _ e; omega) (fun y hy q => by obtain ⟨_, _, q'⟩ := pa.kC y hy; rw [q'] at q; injection q with _ q; omega) (fun y hy q => by obtain ⟨_, _, q'⟩ := pa.kP y hy; rw [q'] at q; injection q with _ q; omega)
      (fun y hy q => by obtain ⟨i', k', h, q'⟩ := pa.T y hy; rw [q'] at q; injection q with _ _ q1 q2; omega) (fun y hy q => by obtain ⟨_, _, q'⟩ := pa.kN y hy; rw [q'] at q; injection q with _ q; omega)
    have cs0 : BldA (fun c => κ' c = .ans j 1 i 0) 5 (ChS κ' j i k (k + 1) mk) g' (.slice (some ⟨bc, 0, none⟩) x.chgs.length x.chgs.length) x.chgs.zipIdx := rs.cs.to (Nat.le_refl _) rfl (fun _ _ q => q) (fun _ _ e _ => e) (fun cs n y z hy hz q => by
      rw [hy] at hz; cases hz
      unfold ChS at q ⊢
      by_cases h1 : y.2 < k
      · rw [if_pos h1] at q ⊢; exact q
      · rw [if_neg h1, if_neg h1] at q
        rw [if_neg h1]
        by_cases h2 : y.2 < k + 1
        · rw [if_pos h2]
          obtain ⟨v, e, _⟩ := q
          exact ⟨_, _, _, _, _, e⟩
        · rw [if_neg h2]; exact q)
    have rs0 : Rest κ' j g' _ m items i _ wI x k (k + 1) 0 0 mk := ⟨rs.is, cs0, rs.ps⟩
    have rs1 := rs0.tr C1 (Agr.refl _ _) (by simp) (by simp) (by simp) (by intro kd i' m' _ h e; injection e with _ _ e; omega) (by intro k' h e; injection e with _ _ _ e; omega) (by intro k' h e; injection e with _ e; omega)
    have y1 := C1.1
    have ad := fb1.addT pa.kC pa.kP pa.kT pa.kN (i := i) (k := k) (n := t.tags.length) (mk := ownM m i k) bt1 (by rw [heT]; simp [hfl]; omega)
    have ho := own_eq (F := F) (by omega) g1 (m := m) (i := i) (k := k) (by omega) (by omega) (by omega)
    have hkb := fb1.kbc
    have hkbs := lt_of_get hkb
    have hbl := bt1.sl.len
    rw [List.length_replicate] at hbl
    have ob := bt1.sl.one
    have vb := bt1.sl.vc
    have sT := SlR.sameV fb1.bT.sl
    simp only [oneCell] at ob
    simp only [vcells] at vb
    simp (disch := first | omega | (simp only [newRow_size, Array.size_setIfInBounds, Array.size_push]; done) | (simp only [newRow_size, Array.size_setIfInBounds, Array.size_push]; omega)) [chTail, d65_13, eqT, eqF, neT, neF, ltT, ltF, leT, leF, nltT, nltF, nleT, nleF, nneT, nneF, List.getElem?_cons_zero, List.getElem?_cons_succ, hkb, hbl, callV_fn, ho, ob, vb, srcOf]
    refine Ans.nextD ad ?_
    rintro T2 g2 ⟨oT, vT, hkb2, κ2, ag2, ch2, fb2⟩
    have hkbs2 := lt_of_get hkb2
    have y2 := ch2.1
    simp only [oneCell] at oT
    simp only [vcells] at vT
    simp only [List.set] at ch2 fb2
    simp (disch := first | omega | (simp only [newRow_size, Array.size_setIfInBounds, Array.size_push]; done) | (simp only [newRow_size, Array.size_setIfInBounds, Array.size_push]; omega)) [hkb2, oT, vT, eqT, eqF, neT, neF, ltT, ltF, leT, leF, nltT, nltF, nleT, nleF, nneT, nneF, List.getElem?_cons_zero, List.getElem?_cons_succ, dk_go, chks_nil, chks_cons, chkA_nil, chkA_cons, chk1_no, chk1_yes, chkV_some, hAt_eq, hOf_some, hOf_none, hkb, sT, hkbs2]
    generalize g2.setIfInBounds kb (.cells [.slice (some ⟨ba, 0, none⟩) items.length items.length, .slice (some ⟨ba, 0, none⟩) items.length items.length, C, P, T2, N, .int .i64 m] 0 true []) = g3 at ch2 fb2 ⊢
    -- the change, written over
    have y3 := ch2.1
    have rs2 := rs1.tr ch2 ag2 (by simp) (by simp) (by simp) (by intro kd i' m' _ h e; rcases e with e | e <;> injection e; omega) (by intro k' h e; rcases e with e | e <;> injection e; omega) (by intro k' h e; rcases e with e | e <;> injection e; omega)
    have hga3 : hget g3 ba = some (.cells csa 5 true ana) := ch2.get (C1.get hga (by rw [hka]; simp)) (by rw [hka]; simp)
    obtain ⟨bc', cs', an', h4, e1', q2, q3, q4, q5, q6, q7, q8, q9⟩ := rs2.cs.put (zip_at ht) (o := 0) (new := [.int .i64 0, .string { data := #[] }, .string { data := #[] }, .int .i64 mk]) (by simp) rfl
    rw [Nat.add_zero] at q6
    injection e1' with e1' _ _
    injection e1' with e1'
    injection e1' with e1' _ _
    subst e1'
    simp (disch := first | omega | (simp only [newRow_size, Array.size_setIfInBounds, Array.size_push]; done) | (simp only [newRow_size, Array.size_setIfInBounds, Array.size_push]; omega)) [r65_14, hga3, hla, hv3, hi, hlt, eqT, eqF, neT, neF, ltT, ltF, leT, leF, nltT, nltF, nleT, nleF, nneT, nneF, List.getElem?_cons_zero, List.getElem?_cons_succ, -wr, q6, r65_15, hw]
    have C4 : Ch κ2 (· = .ans j 1 i 0) g3 h4 := ⟨by omega, fun c hc hn => q8.2 c hc hn⟩
    have fb4 := fb2.tr C4 (Agr.refl _ _) (by simp) (by intro kd h e; injection e with _ e; omega) (fun y hy q => by obtain ⟨_, h, q'⟩ := pa.C y hy; rw [q'] at q; injection q with _ _ q; omega) (fun y hy q => by obtain ⟨_, _, q'⟩ := pa.kP y hy; rw [q'] at q; injection q with _ q; omega)
      (fun y hy q => by
        rcases List.mem_append.1 hy with hy | hy
        · obtain ⟨_, _, q'⟩ := pa.kT y hy; rw [q'] at q; injection q with _ q; omega
        · rw [List.mem_singleton.1 hy] at q; injection q with _ q; omega) (fun y hy q => by obtain ⟨_, _, q'⟩ := pa.kN y hy; rw [q'] at q; injection q with _ q; omega)
    have is4 := isTr rs2.is C4 (by simp) (by intro kd i' m' _ h e; injection e with _ _ e; omega) (Agr.refl _ _)
    have ps4 := psTr rs2.ps C4 (by simp) (by intro k' h e; injection e with _ e; omega) (Agr.refl _ _)
    have hset : x.chgs.zipIdx.set k (t, k) = x.chgs.zipIdx := by
      apply List.ext_getElem?
      intro n
      by_cases hn : n = k
      · subst hn; rw [List.getElem?_set_self (by simpa using hlt), zip_at ht]
      · rw [List.getElem?_set_ne (fun e => hn e.symm)]
    have cs4 := q9 (R2 := ChS κ2 j i (k + 1) (k + 1) mk) (t, k) (fun cs n z hz hnk q => by
      obtain ⟨_, hzn⟩ := zip_inv hz
      unfold ChS at q ⊢
      by_cases h1 : z.2 < k
      · rw [if_pos h1] at q; rw [if_pos (by omega)]; exact q
      · rw [if_neg h1, if_neg (by omega)] at q
        rw [if_neg (by omega), if_neg (by omega)]
        exact q.tr C4 (by simp) (Agr.refl _ _)) (by
      unfold ChS at q5 ⊢
      rw [if_neg (Nat.lt_irrefl _), if_pos (by omega)] at q5
      rw [if_pos (by omega)]
      obtain ⟨b1, b2, b3, b4, b5, e⟩ := q5
      rw [e]
      exact ⟨b5, rfl⟩)
    rw [hset] at cs4
    have htk : (fT j i m x.chgs).take (k + 1) = (fT j i m x.chgs).take k ++ [(⟨.ans j 3 i k, t.tags.length, ownM m i k⟩, 0)] := take_snoc (by unfold fT; rw [List.getElem?_map, zip_at ht]; rfl)
    refine ih (x.chgs.length - (k + 1)) _ _ (by omega) ⟨k + 1, κ2, T2, eT' ++ [(⟨.ans j 3 i k, t.tags.length, ownM m i k⟩, 0)], rfl, by omega, rfl, by rw [htk, heT, List.append_assoc], fb4, ⟨is4, cs4, ps4⟩, ?_, (ag.trans (κ1 := κ') (Agr.refl _ _) (by omega)).trans ag2 (by omega), ?_⟩
    · refine ⟨pa.C, pa.P, fun y hy => ?_, pa.N⟩
      rcases List.mem_append.1 hy with hy | hy
      · obtain ⟨i', k', h, q⟩ := pa.T y hy
        exact ⟨i', k', by omega, q⟩
      · rw [List.mem_singleton.1 hy]
        exact ⟨i, k, by omega, rfl⟩
    · have c1 : Ch κ' (own j) g' g1 := C1.weak (fun c h => .inr ⟨_, _, _, h⟩)
      have c2 : Ch κ' (own j) g1 g3 := ch2.weak (fun c h => by rcases h with h | h; exact .inr ⟨_, _, _, h⟩; exact .inl h)
      have c3 : Ch κ2 (own j) g3 h4 := C4.weak (fun c h => .inr ⟨_, _, _, h⟩)
      exact ch.trans ((c1.trans c2 (Agr.refl _ _)).trans c3 (fun c hc => ag2 c (by omega))) ag
  · have hkk : k = x.chgs.length := by omega
    subst hkk
    have hnk : ¬ (x.chgs.length : Int) < (x.chgs.length : Int) := by omega
    simp (disch := first | omega | (simp only [newRow_size, Array.size_setIfInBounds, Array.size_push]; done) | (simp only [newRow_size, Array.size_setIfInBounds, Array.size_push]; omega)) [l65_16_cut, r65_6, hga, hla, hv3, hi, hlc, hnk, eqT, eqF, neT, neF, ltT, ltF, leT, leF, nltT, nltF, nleT, nleF, nneT, nneF, List.getElem?_cons_zero, List.getElem?_cons_succ]
    rw [List.take_of_length_le (by omega)] at heT
    subst heT
    exact hkn g' κ' T' _ fb rs pa ag ch

end Go.Proofs.Ytkkagpchcefidaa

/- QueueOwn: the parts of one item, written full. -/
set_option linter.unusedSimpArgs false
set_option linter.unusedVariables false
namespace Go.Proofs.Ytkkagpchcefidaa
open Go.Ev

def ptIn : ACode := (.seq (.region r65_17 [0, 1, 4, 5, 6, 7, 11]) (.block 6 (.loop [0, 1, 4, 5, 6, 7, 11] l65_28)))
def ptTail : ACode := (.seq (.regionD d65_25 [(1, [11])] [0, 1, 4, 5, 6, 7, 11]) (.region r65_26 [0, 1, 4, 5, 6, 7, 11]))
theorem l65_28_cut : l65_28 = (.seq (.seq (.region r65_18 [0, 1, 4, 5, 6, 7, 11, 89]) (.cond (.tmp 89) .skip (.exit 6))) (.seq (.block 7 (.seq (.region r65_19 [0, 1, 4, 5, 6, 7, 11, 12]) (.seq ndIn ptTail))) (.region r65_27 [0, 1, 4, 5, 6, 7, 11]))) := rfl

set_option maxHeartbeats 4000000 in
theorem ptIn_spec {F : Nat} (hF : 100 ≤ F) {κ : Kp} {j : Nat} {g : H} {kb : Nat} {v0 C P T N v4 vI wI : Value} {m : Nat} {eC eP eT eN : List (Ent × Nat)} {items : List Itm} {i : Nat} {x : Itm} (hx : items[i]? = some x) (hm : m ≤ 1000) (hil : items.length ≤ 100)
    (hpr : x.prts.length ≤ 24) (htg : ∀ t ∈ x.prts, t.nodes.length ≤ 24) (het : eN.length ≤ 10000) {mk : Int} {nc : Nat}
    (fb : FB κ j g kb v0 v0 C P T N m eC eP eT eN) (rs : Rest κ j g v0 m items i vI wI x nc nc 0 0 mk) (pa : Past j i nc 0 eC eP eT eN) {re : Env}
    {kn kr : K} {ke : Nat → K} {Q : Value → H → Prop}
    (hkn : ∀ g' κ' N' (e : Env), FB κ' j g' kb v0 v0 C P T N' m eC eP eT (eN ++ fN j i m x.prts) → Rest κ' j g' v0 m items i vI wI x nc nc x.prts.length x.prts.length mk → Past j i nc x.prts.length eC eP eT (eN ++ fN j i m x.prts) → Agr g.size κ κ' → Ch κ (own j) g g' →
      Ans (kn ((0, v0) :: (1, .int .i64 m) :: (4, v4) :: (5, .pointer (some ⟨kb, 0, none⟩)) :: (6, .int .i64 i) :: (7, .int .i64 mk) :: e) g' []) Q) :
    Ans (evC F (cf F) ptIn kn ke kr ((0, v0) :: (1, .int .i64 m) :: (4, v4) :: (5, .pointer (some ⟨kb, 0, none⟩)) :: (6, .int .i64 i) :: (7, .int .i64 mk) :: re) g []) Q := by
  have hi := (List.getElem?_eq_some_iff.1 hx).1
  simp (disch := first | omega | (simp only [newRow_size, Array.size_setIfInBounds, Array.size_push]; done) | (simp only [newRow_size, Array.size_setIfInBounds, Array.size_push]; omega)) [ptIn, r65_17]
  refine loop_rule (fun mm e g' => ∃ (k : Nat) (κ' : Kp) (N' : Value) (eN' : List (Ent × Nat)), mm = x.prts.length - k ∧ k ≤ x.prts.length ∧ e = [(0, v0), (1, .int .i64 m), (4, v4), (5, .pointer (some ⟨kb, 0, none⟩)), (6, .int .i64 i), (7, .int .i64 mk), (11, .int .i64 k)] ∧ eN' = eN ++ (fN j i m x.prts).take k ∧
      FB κ' j g' kb v0 v0 C P T N' m eC eP eT eN' ∧ Rest κ' j g' v0 m items i vI wI x nc nc k k mk ∧ Past j i nc k eC eP eT eN' ∧ Agr g.size κ κ' ∧ Ch κ (own j) g g') ?_ _ x.prts.length _ _ (by omega)
    ⟨0, κ, N, eN, by omega, by omega, rfl, by simp, fb, rs, pa, Agr.refl _ _, Ch.refl _ _ _⟩
  clear fb rs pa
  rintro mm e g' again ⟨k, κ', N', eN', rfl, hk, rfl, heT, fb, rs, pa, ag, ch⟩ ih
  have hw : IntKind.i64.wrap ((k : Int) + 1) = ((k + 1 : Nat) : Int) := by rw [IntKind.wrap_i64]; omega
  have yg := ch.1
  have hfl : (fN j i m x.prts).length = x.prts.length := by simp [fN]
  -- the item, read
  obtain ⟨ba, csa, ana, rfl, hka, hga, hla, hra⟩ := rs.is.row (zip_at hx)
  simp only [ItS, Nat.lt_irrefl, if_false, if_true] at hra
  obtain ⟨a1, a2, a3, hra⟩ := hra
  obtain ⟨_, _, hv3, _⟩ := get5 hra
  have hgas := lt_of_get hga
  simp only [List.length_zipIdx] at *
  have hlc := rs.ps.sl.len
  simp only [List.length_zipIdx] at hlc
  by_cases hlt : k < x.prts.length
  · obtain ⟨t, ht⟩ : ∃ t, x.prts[k]? = some t := ⟨_, List.getElem?_eq_getElem hlt⟩
    have hkc : (k : Int) < (x.prts.length : Int) := by omega
    have htl := htg t (List.mem_of_getElem? ht)
    obtain ⟨bc, csc, anc, rfl, hkc', hgc, hlcc, hrc⟩ := rs.ps.row (zip_at ht)
    simp only [PrS, Nat.lt_irrefl, if_false] at hrc
    obtain ⟨tv, hrc, bt⟩ := hrc
    obtain ⟨_, _, hv4, _⟩ := get5 hrc
    have hgcs := lt_of_get hgc
    simp only [List.length_zipIdx] at *
    simp (disch := first | omega | (simp only [newRow_size, Array.size_setIfInBounds, Array.size_push]; done) | (simp only [newRow_size, Array.size_setIfInBounds, Array.size_push]; omega)) [l65_28_cut, r65_18, hga, hla, hv3, hi, hkc, eqT, eqF, neT, neF, ltT, ltF, leT, leF, nltT, nltF, nleT, nleF, nneT, nneF, List.getElem?_cons_zero, List.getElem?_cons_succ, r65_19, hgc, hlcc, hv4, hlt]
    have btA := bt.anyC
    refine ndIn_spec (F := F) hF (n := t.nodes.length) htl hm (by omega) (by omega) btA ?_
    intro g1 e1 C1 bt1
    -- the book and the lists behind the marks of the tags
    have fb1 := fb.tr C1 (Agr.refl _ _) (by simp) (by intro kd h e; injection e with _ e; omega) (fun y hy q => by obtain ⟨_, _, q'⟩ := pa.kC y hy; rw [q'] at q; injection q with _ q; omega) (fun y hy q => by obtain ⟨_, _, q'⟩ := pa.kP y hy; rw [q'] at q; injection q with _ q; omega)
      (fun y hy q => by obtain ⟨_, _, q'⟩ := pa.kT y hy; rw [q'] at q; injection q with _ q; omega) (fun y hy q => by obtain ⟨i', k', h, q'⟩ := pa.N y hy; rw [q'] at q; injection q with _ _ q1 q2; omega)
    have ps0 : BldA (fun c => κ' c = .ans j 2 i 0) 5 (PrS κ' j i k (k + 1) mk) g' (.slice (some ⟨bc, 0, none⟩) x.prts.length x.prts.length) x.prts.zipIdx := rs.ps.to (Nat.le_refl _) rfl (fun _ _ q => q) (fun _ _ e _ => e) (fun cs n y z hy hz q => by
      rw [hy] at hz; cases hz
      unfold PrS at q ⊢
      by_cases h1 : y.2 < k
      · rw [if_pos h1] at q ⊢; exact q
      · rw [if_neg h1, if_neg h1] at q
        rw [if_neg h1]
        by_cases h2 : y.2 < k + 1
        · rw [if_pos h2]
          obtain ⟨v, e, _⟩ := q
          exact ⟨_, _, _, _, _, e⟩
        · rw [if_neg h2]; exact q)
    have rs0 : Rest κ' j g' _ m items i vI _ x nc nc k (k + 1) mk := ⟨rs.is, rs.cs, ps0⟩
    have rs1 := rs0.tr C1 (Agr.refl _ _) (by simp) (by simp) (by simp) (by intro kd i' m' _ h e; injection e with _ _ e; omega) (by intro k' h e; injection e with _ e; omega) (by intro k' h e; injection e with _ _ _ e; omega)
    have y1 := C1.1
    have ad := fb1.addN pa.kC pa.kP pa.kT pa.kN (i := i) (k := k) (n := t.nodes.length) (mk := ownM m i k) bt1 (by rw [heT]; simp [hfl]; omega)
    have ho := own_eq (F := F) (by omega) g1 (m := m) (i := i) (k := k) (by omega) (by omega) (by omega)
    have hkb := fb1.kbc
    have hkbs := lt_of_get hkb
    have hbl := bt1.sl.len
    rw [List.length_replicate] at hbl
    have ob := bt1.sl.one
    have vb := bt1.sl.vc
    have sT := SlR.sameV fb1.bN.sl
    simp only [oneCell] at ob
    simp only [vcells] at vb
    simp (disch := first | omega | (simp only [newRow_size, Array.size_setIfInBounds, Array.size_push]; done) | (simp only [newRow_size, Array.size_setIfInBounds, Array.size_push]; omega)) [ptTail, d65_25, eqT, eqF, neT, neF, ltT, ltF, leT, leF, nltT, nltF, nleT, nleF, nneT, nneF, List.getElem?_cons_zero, List.getElem?_cons_succ, hkb, hbl, callV_fn, ho, ob, vb, srcOf]
    refine Ans.nextD ad ?_
    rintro T2 g2 ⟨oT, vT, hkb2, κ2, ag2, ch2, fb2⟩
    have hkbs2 := lt_of_get hkb2
    have y2 := ch2.1
    simp only [oneCell] at oT
    simp only [vcells] at vT
    simp only [List.set] at ch2 fb2
    simp (disch := first | omega | (simp only [newRow_size, Array.size_setIfInBounds, Array.size_push]; done) | (simp only [newRow_size, Array.size_setIfInBounds, Array.size_push]; omega)) [hkb2, oT, vT, eqT, eqF, neT, neF, ltT, ltF, leT, leF, nltT, nltF, nleT, nleF, nneT, nneF, List.getElem?_cons_zero, List.getElem?_cons_succ, dk_go, chks_nil, chks_cons, chkA_nil, chkA_cons, chk1_no, chk1_yes, chkV_some, hAt_eq, hOf_some, hOf_none, hkb, sT, hkbs2]
    generalize g2.setIfInBounds kb (.cells [.slice (some ⟨ba, 0, none⟩) items.length items.length, .slice (some ⟨ba, 0, none⟩) items.length items.length, C, P, T, T2, .int .i64 m] 0 true []) = g3 at ch2 fb2 ⊢
    -- the change, written over
    have y3 := ch2.1
    have rs2 := rs1.tr ch2 ag2 (by simp) (by simp) (by simp) (by intro kd i' m' _ h e; rcases e with e | e <;> injection e; omega) (by intro k' h e; rcases e with e | e <;> injection e; omega) (by intro k' h e; rcases e with e | e <;> injection e; omega)
    have hga3 : hget g3 ba = some (.cells csa 5 true ana) := ch2.get (C1.get hga (by rw [hka]; simp)) (by rw [hka]; simp)
    obtain ⟨bc', cs', an', h4, e1', q2, q3, q4, q5, q6, q7, q8, q9⟩ := rs2.ps.put (zip_at ht) (o := 0) (new := [.int .i64 mk]) (by simp) rfl
    rw [Nat.add_zero] at q6
    injection e1' with e1' _ _
    injection e1' with e1'
    injection e1' with e1' _ _
    subst e1'
    simp (disch := first | omega | (simp only [newRow_size, Array.size_setIfInBounds, Array.size_push]; done) | (simp only [newRow_size, Array.size_setIfInBounds, Array.size_push]; omega)) [r65_26, hga3, hla, hv3, hi, hlt, eqT, eqF, neT, neF, ltT, ltF, leT, leF, nltT, nltF, nleT, nleF, nneT, nneF, List.getElem?_cons_zero, List.getElem?_cons_succ, -wr, q6, r65_27, hw]
    have C4 : Ch κ2 (· = .ans j 2 i 0) g3 h4 := ⟨by omega, fun c hc hn => q8.2 c hc hn⟩
    have fb4 := fb2.tr C4 (Agr.refl _ _) (by simp) (by intro kd h e; injection e with _ e; omega) (fun y hy q => by obtain ⟨_, _, q'⟩ := pa.kC y hy; rw [q'] at q; injection q with _ q; omega) (fun y hy q => by obtain ⟨_, h, q'⟩ := pa.P y hy; rw [q'] at q; injection q with _ _ q; omega)
      (fun y hy q => by obtain ⟨_, _, q'⟩ := pa.kT y hy; rw [q'] at q; injection q with _ q; omega) (fun y hy q => by
        rcases List.mem_append.1 hy with hy | hy
        · obtain ⟨_, _, q'⟩ := pa.kN y hy; rw [q'] at q; injection q with _ q; omega
        · rw [List.mem_singleton.1 hy] at q; injection q with _ q; omega)
    have is4 := isTr rs2.is C4 (by simp) (by intro kd i' m' _ h e; injection e with _ _ e; omega) (Agr.refl _ _)
    have cs40 := csTr rs2.cs C4 (by simp) (by intro k' h e; injection e with _ e; omega) (Agr.refl _ _)
    have hset : x.prts.zipIdx.set k (t, k) = x.prts.zipIdx := by
      apply List.ext_getElem?
      intro n
      by_cases hn : n = k
      · subst hn; rw [List.getElem?_set_self (by simpa using hlt), zip_at ht]
      · rw [List.getElem?_set_ne (fun e => hn e.symm)]
    have ps4 := q9 (R2 := PrS κ2 j i (k + 1) (k + 1) mk) (t, k) (fun cs n z hz hnk q => by
      obtain ⟨_, hzn⟩ := zip_inv hz
      unfold PrS at q ⊢
      by_cases h1 : z.2 < k
      · rw [if_pos h1] at q; rw [if_pos (by omega)]; exact q
      · rw [if_neg h1, if_neg (by omega)] at q
        rw [if_neg (by omega), if_neg (by omega)]
        exact q.tr C4 (by simp) (Agr.refl _ _)) (by
      unfold PrS at q5 ⊢
      rw [if_neg (Nat.lt_irrefl _), if_pos (by omega)] at q5
      rw [if_pos (by omega)]
      obtain ⟨b1, b2, b3, b4, b5, e⟩ := q5
      rw [e]
      exact ⟨b2, b3, b4, b5, rfl⟩)
    rw [hset] at ps4
    have htk : (fN j i m x.prts).take (k + 1) = (fN j i m x.prts).take k ++ [(⟨.ans j 4 i k, t.nodes.length, ownM m i k⟩, 0)] := take_snoc (by unfold fN; rw [List.getElem?_map, zip_at ht]; rfl)
    refine ih (x.prts.length - (k + 1)) _ _ (by omega) ⟨k + 1, κ2, T2, eN' ++ [(⟨.ans j 4 i k, t.nodes.length, ownM m i k⟩, 0)], rfl, by omega, rfl, by rw [htk, heT, List.append_assoc], fb4, ⟨is4, cs40, ps4⟩, ?_, (ag.trans (κ1 := κ') (Agr.refl _ _) (by omega)).trans ag2 (by omega), ?_⟩
    · refine ⟨pa.C, pa.P, pa.T, fun y hy => ?_⟩
      rcases List.mem_append.1 hy with hy | hy
      · obtain ⟨i', k', h, q⟩ := pa.N y hy
        exact ⟨i', k', by omega, q⟩
      · rw [List.mem_singleton.1 hy]
        exact ⟨i, k, by omega, rfl⟩
    · have c1 : Ch κ' (own j) g' g1 := C1.weak (fun c h => .inr ⟨_, _, _, h⟩)
      have c2 : Ch κ' (own j) g1 g3 := ch2.weak (fun c h => by rcases h with h | h; exact .inr ⟨_, _, _, h⟩; exact .inl h)
      have c3 : Ch κ2 (own j) g3 h4 := C4.weak (fun c h => .inr ⟨_, _, _, h⟩)
      exact ch.trans ((c1.trans c2 (Agr.refl _ _)).trans c3 (fun c hc => ag2 c (by omega))) ag
  · have hkk : k = x.prts.length := by omega
    subst hkk
    have hnk : ¬ (x.prts.length : Int) < (x.prts.length : Int) := by omega
    simp (disch := first | omega | (simp only [newRow_size, Array.size_setIfInBounds, Array.size_push]; done) | (simp only [newRow_size, Array.size_setIfInBounds, Array.size_push]; omega)) [l65_28_cut, r65_18, hga, hla, hv3, hi, hlc, hnk, eqT, eqF, neT, neF, ltT, ltF, leT, leF, nltT, nltF, nleT, nleF, nneT, nneF, List.getElem?_cons_zero, List.getElem?_cons_succ]
    rw [List.take_of_length_le (by omega)] at heT
    subst heT
    exact hkn g' κ' N' _ fb rs pa ag ch

end Go.Proofs.Ytkkagpchcefidaa
