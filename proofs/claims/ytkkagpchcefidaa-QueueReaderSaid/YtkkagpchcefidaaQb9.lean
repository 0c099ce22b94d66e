/- The items of a queue are sound, and the program finds them so. -/
import Derived.Test.YtkkagpchcefidaaQb8
set_option linter.unusedSimpArgs false
set_option linter.unusedVariables false
namespace Go.Proofs.Ytkkagpchcefidaa
open Go.Ev

def Itm.Shape (x : Itm) : Prop := (x.marker = true → x.prts ≠ [] ∧ x.chgs = []) ∧ (x.marker = false → x.chgs ≠ [] ∧ x.prts = [])

def SoundL (l : List Itm) : Prop := (∀ x ∈ l, x.after < x.stamp ∧ x.Shape) ∧ ∀ i x y, l[i]? = some x → l[i + 1]? = some y → x.stamp ≤ y.after ∧ x.stamp < y.stamp

set_option maxHeartbeats 2000000 in
theorem sound_spec {F : Nat} (hF : 1000 ≤ F) {ok : Nat → Prop} {h : H} {v : Value} {l : List Itm} (s : SlR ok 5 (ItmC ok) h v l) (room last : Int) (h1 : (l.length : Int) ≤ room) (h2 : l.length ≤ 32) (hs : SoundL l) (hlast : ∀ x, l[l.length - 1]? = some x → x.stamp = last) :
    Ans (cf F 26 [v, .int .i64 room, .int .i64 last] h) fun u h' => u = .bool true ∧ Kept h h' [] := by
  generalize hQ : (fun (u : Value) (h' : H) => u = .bool true ∧ Kept h h' []) = Q
  obtain ⟨F, rfl⟩ : ∃ G, F = G + 1 := ⟨F - 1, by omega⟩
  rw [cf_step (a := a26) rfl rfl (by simp [a26])]
  have hl := s.len
  simp (disch := first | omega | (simp only [newRow_size, Array.size_setIfInBounds, Array.size_push]; done) | (simp only [newRow_size, Array.size_setIfInBounds, Array.size_push]; omega)) [a26, r26_0, r26_1, hl, eqT, eqF, neT, neF, ltT, ltF, leT, leF, nltT, nltF, nleT, nleF, nneT, nneF, List.getElem?_cons_zero, List.getElem?_cons_succ, r26_3]
  refine loop_rule (fun m e g => ∃ (i : Nat), m = l.length - i ∧ i ≤ l.length ∧ e = [(0, v), (2, .int .i64 last), (7, .int .i64 i)] ∧ Kept h g []) ?_ _ l.length _ _ (by omega) ⟨0, by omega, by omega, rfl, Kept.refl _ _⟩
  rintro m e g again ⟨i, rfl, hi, rfl, kg⟩ ih
  have sg := SlItm.imp s (ok' := ok) (fun _ _ q => q) (keep_of kg.c (by simp))
  by_cases hlt : i < l.length
  · obtain ⟨x, hx⟩ : ∃ x, l[i]? = some x := ⟨_, List.getElem?_eq_getElem hlt⟩
    obtain ⟨b, o, c, cs, rfl, hlc, hk, hc, hI⟩ := sg.row (by omega)
    obtain ⟨es, lv, an, hg⟩ := cel_inv hc
    have hgs := lt_of_get hg
    obtain ⟨vt, vp, e5, e0, e1, e2, e3, e4, st, sp⟩ := id_at (hI i x hx).2 (hI i x hx).1
    have hw1 : IntKind.i64.wrap ((i : Int) + 1) = ((i + 1 : Nat) : Int) := by rw [wrap_id (by omega) (by omega)]; rfl
    obtain ⟨f1, f2⟩ := hs.1 x (List.mem_of_getElem? hx)
    have hto := st.one
    have hpo := sp.one
    have ht := st.len
    have hp := sp.len
    simp only [oneCell] at hto hpo
    have hle := (hI i x hx).1
    simp (disch := first | omega | (simp only [newRow_size, Array.size_setIfInBounds, Array.size_push]; done) | (simp only [newRow_size, Array.size_setIfInBounds, Array.size_push]; omega)) [l26_11, r26_4, r26_5, hg, e5, hto, hpo, eqT, eqF, neT, neF, ltT, ltF, leT, leF, nltT, nltF, nleT, nleF, nneT, nneF, List.getElem?_cons_zero, List.getElem?_cons_succ]
    have f3 : x.marker = true ∧ x.prts.length ≠ 0 ∧ x.chgs.length = 0 ∨ x.marker = false ∧ x.chgs.length ≠ 0 ∧ x.prts.length = 0 := by
      cases hmk : x.marker with
      | true =>
        obtain ⟨a1, a2⟩ := f2.1 hmk
        exact .inl ⟨rfl, fun e => a1 (List.length_eq_zero_iff.1 e), by rw [a2]; rfl⟩
      | false =>
        obtain ⟨a1, a2⟩ := f2.2 hmk
        exact .inr ⟨rfl, fun e => a1 (List.length_eq_zero_iff.1 e), by rw [a2]; rfl⟩
    have kR := rowKept g [.int .i64 x.stamp, .int .i64 x.after, .bool x.marker, vt, vp] 0 []
    by_cases hz : 0 < i
    · obtain ⟨y, hy⟩ : ∃ y, l[i - 1]? = some y := ⟨_, List.getElem?_eq_getElem (by omega)⟩
      obtain ⟨_, _, _, p0, _⟩ := id_at (hI (i - 1) y hy).2 (hI (i - 1) y hy).1
      have hle2 := (hI (i - 1) y hy).1
      have hw0 : IntKind.i64.wrap ((i : Int) - 1) = ((i - 1 : Nat) : Int) := by rw [wrap_id (by omega) (by omega)]; omega
      obtain ⟨n1, n2⟩ := hs.2 (i - 1) y x hy (by rw [show i - 1 + 1 = i by omega]; exact hx)
      simp (disch := first | omega | (simp only [newRow_size, Array.size_setIfInBounds, Array.size_push]; done) | (simp only [newRow_size, Array.size_setIfInBounds, Array.size_push]; omega)) [d26_6, f1, eqT, eqF, neT, neF, ltT, ltF, leT, leF, nltT, nltF, nleT, nleF, nneT, nneF, List.getElem?_cons_zero, List.getElem?_cons_succ, hw0, hg, p0]
      rcases f3 with ⟨m1, m2, m3⟩ | ⟨m1, m2, m3⟩
      · simp (disch := first | omega | (simp only [newRow_size, Array.size_setIfInBounds, Array.size_push]; done) | (simp only [newRow_size, Array.size_setIfInBounds, Array.size_push]; omega)) [r26_8, m1, m2, m3, ht, hp, eqT, eqF, neT, neF, ltT, ltF, leT, leF, nltT, nltF, nleT, nleF, nneT, nneF, List.getElem?_cons_zero, List.getElem?_cons_succ, r26_10, hw1]
        exact ih (l.length - (i + 1)) _ _ (by omega) ⟨i + 1, rfl, by omega, rfl, kg.trans (by rw [m1] at kR; exact kR)⟩
      · simp (disch := first | omega | (simp only [newRow_size, Array.size_setIfInBounds, Array.size_push]; done) | (simp only [newRow_size, Array.size_setIfInBounds, Array.size_push]; omega)) [r26_8, m1, m2, m3, ht, hp, eqT, eqF, neT, neF, ltT, ltF, leT, leF, nltT, nltF, nleT, nleF, nneT, nneF, List.getElem?_cons_zero, List.getElem?_cons_succ, r26_10, hw1]
        exact ih (l.length - (i + 1)) _ _ (by omega) ⟨i + 1, rfl, by omega, rfl, kg.trans (by rw [m1] at kR; exact kR)⟩
    · simp (disch := first | omega | (simp only [newRow_size, Array.size_setIfInBounds, Array.size_push]; done) | (simp only [newRow_size, Array.size_setIfInBounds, Array.size_push]; omega)) [d26_6, f1, eqT, eqF, neT, neF, ltT, ltF, leT, leF, nltT, nltF, nleT, nleF, nneT, nneF, List.getElem?_cons_zero, List.getElem?_cons_succ]
      rcases f3 with ⟨m1, m2, m3⟩ | ⟨m1, m2, m3⟩
      · simp (disch := first | omega | (simp only [newRow_size, Array.size_setIfInBounds, Array.size_push]; done) | (simp only [newRow_size, Array.size_setIfInBounds, Array.size_push]; omega)) [r26_8, m1, m2, m3, ht, hp, eqT, eqF, neT, neF, ltT, ltF, leT, leF, nltT, nltF, nleT, nleF, nneT, nneF, List.getElem?_cons_zero, List.getElem?_cons_succ, r26_10, hw1]
        exact ih (l.length - (i + 1)) _ _ (by omega) ⟨i + 1, rfl, by omega, rfl, kg.trans (by rw [m1] at kR; exact kR)⟩
      · simp (disch := first | omega | (simp only [newRow_size, Array.size_setIfInBounds, Array.size_push]; done) | (simp only [newRow_size, Array.size_setIfInBounds, Array.size_push]; omega)) [r26_8, m1, m2, m3, ht, hp, eqT, eqF, neT, neF, ltT, ltF, leT, leF, nltT, nltF, nleT, nleF, nneT, nneF, List.getElem?_cons_zero, List.getElem?_cons_succ, r26_10, hw1]
        exact ih (l.length - (i + 1)) _ _ (by omega) ⟨i + 1, rfl, by omega, rfl, kg.trans (by rw [m1] at kR; exact kR)⟩
  · by_cases hz : l.length = 0
    · simp (disch := first | omega | (simp only [newRow_size, Array.size_setIfInBounds, Array.size_push]; done) | (simp only [newRow_size, Array.size_setIfInBounds, Array.size_push]; omega)) [l26_11, r26_4, eqT, eqF, neT, neF, ltT, ltF, leT, leF, nltT, nltF, nleT, nleF, nneT, nneF, List.getElem?_cons_zero, List.getElem?_cons_succ, r26_12, hl, hz]
      subst hQ
      exact Ans.of ⟨rfl, kg⟩
    · obtain ⟨x, hx⟩ : ∃ x, l[l.length - 1]? = some x := ⟨_, List.getElem?_eq_getElem (by omega)⟩
      obtain ⟨b, o, c, cs, rfl, hlc, hk, hc, hI⟩ := sg.row (by omega)
      obtain ⟨es, lv, an, hg⟩ := cel_inv hc
      obtain ⟨_, _, _, p0, _⟩ := id_at (hI _ x hx).2 (hI _ x hx).1
      have hle2 := (hI _ x hx).1
      have hw0 : IntKind.i64.wrap ((l.length : Int) - 1) = ((l.length - 1 : Nat) : Int) := by rw [wrap_id (by omega) (by omega)]; omega
      have hla := hlast x hx
      simp (disch := first | omega | (simp only [newRow_size, Array.size_setIfInBounds, Array.size_push]; done) | (simp only [newRow_size, Array.size_setIfInBounds, Array.size_push]; omega)) [l26_11, r26_4, eqT, eqF, neT, neF, ltT, ltF, leT, leF, nltT, nltF, nleT, nleF, nneT, nneF, List.getElem?_cons_zero, List.getElem?_cons_succ, r26_12, hl, hz, hw0, hg, p0, hla]
      subst hQ
      exact Ans.of ⟨rfl, kg⟩

theorem putM_cases (q : Qm) (stamp : Int) (l : List Tgd) : (putM q stamp l).2 = q ∨ ((putM q stamp l) = (0, ⟨q.room, q.items ++ [⟨stamp, q.last, false, l, []⟩], stamp⟩) ∧ q.last < stamp ∧ l ≠ []) := by
  unfold putM
  split
  · exact .inl rfl
  rename_i h0
  split
  · exact .inl rfl
  rename_i h1
  split
  · exact .inl rfl
  refine .inr ⟨rfl, ?_, fun e => h1 (.inl e)⟩
  unfold fitsM at h0
  split at h0
  · simp at h0
  split at h0
  · simp at h0
  · omega

theorem collM_cases (q : Qm) (stamp : Int) (l : List Prt) : (collM q stamp l).2 = q ∨ ((collM q stamp l) = (0, ⟨q.room, [⟨stamp, afterM q, true, [], l⟩], stamp⟩) ∧ q.last < stamp ∧ l ≠ []) := by
  unfold collM
  split
  · exact .inl rfl
  rename_i h0
  split
  · exact .inl rfl
  rename_i h1
  split
  · exact .inl rfl
  refine .inr ⟨rfl, ?_, h1⟩
  unfold fitsM at h0
  split at h0
  · simp at h0
  split at h0
  · simp at h0
  · omega

/-- What holds of the items of every queue. -/
structure Qm.Sound (q : Qm) : Prop where
  each : ∀ x ∈ q.items, x.after < x.stamp ∧ x.Shape
  pair : q.items.Pairwise fun x y => x.stamp ≤ y.after
  last : ∀ x, q.items.getLast? = some x → x.stamp = q.last

theorem Qm.Sound.new (room b : Int) : (Qm.new room b).Sound := ⟨by simp [Qm.new], by simp [Qm.new], by simp [Qm.new]⟩

theorem Qm.Sound.put {q : Qm} (s : q.Sound) (g : q.Good) (stamp : Int) (l : List Tgd) : (putM q stamp l).2.Sound := by
  rcases putM_cases q stamp l with e | ⟨e, h1, h2⟩
  · rw [e]; exact s
  · rw [e]
    refine ⟨?_, ?_, ?_⟩
    · intro x hx
      rcases List.mem_append.1 hx with hx | hx
      · exact s.each x hx
      · simp at hx; subst hx
        exact ⟨h1, by simp [Itm.Shape, h2]⟩
    · refine List.pairwise_append.2 ⟨s.pair, by simp, fun a ha b hb => ?_⟩
      simp at hb; subst hb
      exact g.bnd a ha
    · intro x hx
      simp at hx
      subst hx; rfl

theorem Qm.Sound.coll {q : Qm} (s : q.Sound) (g : q.Good) (stamp : Int) (l : List Prt) : (collM q stamp l).2.Sound := by
  rcases collM_cases q stamp l with e | ⟨e, h1, h2⟩
  · rw [e]; exact s
  · rw [e]
    have ha : afterM q ≤ q.last := by
      unfold afterM
      split
      · exact Int.le_refl _
      · rename_i x r hq
        have h3 := (s.each x (by rw [hq]; simp)).1
        have h4 := g.bnd x (by rw [hq]; simp)
        omega
    refine ⟨?_, by simp, ?_⟩
    · intro x hx
      simp at hx; subst hx
      exact ⟨by show afterM q < stamp; omega, by simp [Itm.Shape, h2]⟩
    · intro x hx
      simp at hx; subst hx; rfl

theorem Qm.Sound.took {q : Qm} (s : q.Sound) (stamp : Int) : (tookM q stamp).2.Sound := by
  have hs := dropWhile_sub (fun x : Itm => decide (x.stamp ≤ stamp)) q.items
  refine ⟨fun x hx => s.each x (hs.subset hx), s.pair.sublist hs, fun x hx => ?_⟩
  have hsu := List.dropWhile_suffix (fun x : Itm => decide (x.stamp ≤ stamp)) (l := q.items)
  obtain ⟨p, hp⟩ := hsu
  refine s.last x ?_
  rw [← hp]
  have hx' : (List.dropWhile (fun x : Itm => decide (x.stamp ≤ stamp)) q.items).getLast? = some x := hx
  rw [List.getLast?_append, hx']; rfl

theorem Qm.Good.step {q : Qm} (g : q.Good) (x : Stp) : (stepM q x).Good := by
  unfold stepM
  split
  · exact g.put _ _
  split
  · exact g.coll _ _
  split
  · exact g.took _
  · exact g
theorem Qm.Sound.step {q : Qm} (s : q.Sound) (g : q.Good) (x : Stp) : (stepM q x).Sound := by
  unfold stepM
  split
  · exact s.put g _ _
  split
  · exact s.coll g _ _
  split
  · exact s.took _
  · exact s

theorem Qm.Sound.list {q : Qm} (s : q.Sound) (g : q.Good) : SoundL q.items := by
  refine ⟨s.each, fun i x y hx hy => ?_⟩
  obtain ⟨h1, e1⟩ := List.getElem?_eq_some_iff.1 hx
  obtain ⟨h2, e2⟩ := List.getElem?_eq_some_iff.1 hy
  have a := List.pairwise_iff_getElem.1 s.pair i (i + 1) h1 h2 (by omega)
  have b := List.pairwise_iff_getElem.1 g.rise i (i + 1) h1 h2 (by omega)
  rw [e1, e2] at a b
  exact ⟨a, b⟩

theorem stepM_room (q : Qm) (x : Stp) : (stepM q x).room = q.room := by
  unfold stepM
  split
  · rcases putM_cases q x.stamp x.chgs with e | ⟨e, _⟩ <;> rw [e]
  split
  · rcases collM_cases q x.stamp x.prts with e | ⟨e, _⟩ <;> rw [e]
  split
  · rfl
  · rfl
theorem stepM_last (q : Qm) (x : Stp) : q.last ≤ (stepM q x).last := by
  unfold stepM
  split
  · rcases putM_cases q x.stamp x.chgs with e | ⟨e, h, _⟩
    · rw [e]; exact Int.le_refl _
    · rw [e]; exact Int.le_of_lt h
  split
  · rcases collM_cases q x.stamp x.prts with e | ⟨e, h, _⟩
    · rw [e]; exact Int.le_refl _
    · rw [e]; exact Int.le_of_lt h
  split
  · exact Int.le_refl _
  · exact Int.le_refl _

/-- The lists of all items are short. -/
theorem stepM_short {q : Qm} (hs : ShortI q.items) (g : q.Good) (x : Stp) (hx : x.Short) : ShortI (stepM q x).items := by
  have gl := (g.step x).len
  have gr := (g.step x).room
  refine ⟨by omega, fun y hy => ?_⟩
  unfold stepM at hy
  split at hy
  · rcases putM_cases q x.stamp x.chgs with e | ⟨e, h, _⟩
    · rw [e] at hy; exact hs.2 y hy
    · rw [e] at hy
      rcases List.mem_append.1 hy with hy | hy
      · exact hs.2 y hy
      · simp at hy; subst hy
        exact ⟨hx.1, by simp [ShortP]⟩
  split at hy
  · rcases collM_cases q x.stamp x.prts with e | ⟨e, h, _⟩
    · rw [e] at hy; exact hs.2 y hy
    · rw [e] at hy
      simp at hy; subst hy
      exact ⟨by simp [ShortT], hx.2⟩
  split at hy
  · exact hs.2 y ((dropWhile_sub _ q.items).subset hy)
  · exact hs.2 y hy

end Go.Proofs.Ytkkagpchcefidaa
