/- Several texts in one: Qb9, Qe0, Qe1, Qf0, Qf1, Qf2, Qw0. -/
import Derived.Test.YtkkagpchcefidaaW14

/- The items of a queue are sound, and the program finds them so. -/
set_option linter.unusedSimpArgs false
set_option linter.unusedVariables false
namespace Go.Proofs.Ytkkagpchcefidaa
open Go.Ev

def Itm.Shape (x : Itm) : Prop := (x.marker = true → x.prts ≠ [] ∧ x.chgs = []) ∧ (x.marker = false → x.chgs ≠ [] ∧ x.prts = [])

def SoundL (l : List Itm) : Prop := (∀ x ∈ l, x.after < x.stamp ∧ x.Shape) ∧ ∀ i x y, l[i]? = some x → l[i + 1]? = some y → x.stamp ≤ y.after ∧ x.stamp < y.stamp

set_option maxHeartbeats 2000000 in
theorem sound_spec {F : Nat} (hF : 1000 ≤ F) {ok : Nat → Prop} {h : H} {v : Value} {l : List Itm} (s : SlR ok 5 (ItmC ok) h v l) (room last : Int) (h1 : (l.length : Int) ≤ room) (h2 : l.length ≤ 32) (hs : SoundL l) (hlast : ∀ x, l[l.length - 1]? = some x → x.stamp = last) :
    Ans (cf F 26 [v, .int .i64 room, .int .i64 last] h) fun u h' => u = .bool true ∧ Kept h h' [] := by
  generalize hQ : (fun (u : Value) (h' : H) => u = .bool true ∧ Kept h h' []) = Q
  obtain ⟨F, rfl⟩ : ∃ G, F = G + 1 := ⟨F - 1, by omega⟩
  rw [cf_step (a := a26) rfl rfl (by simp [a26])]
  have hl := s.len
  simp (disch := first | omega | (simp only [newRow_size, Array.size_setIfInBounds, Array.size_push]; done) | (simp only [newRow_size, Array.size_setIfInBounds, Array.size_push]; omega)) [a26, r26_0, r26_1, hl, eqT, eqF, neT, neF, ltT, ltF, leT, leF, nltT, nltF, nleT, nleF, nneT, nneF, List.getElem?_cons_zero, List.getElem?_cons_succ, r26_3]
  refine loop_rule (fun m e g => ∃ (i : Nat), m = l.length - i ∧ i ≤ l.length ∧ e = [(0, v), (2, .int .i64 last), (7, .int .i64 i)] ∧ Kept h g []) ?_ _ l.length _ _ (by omega) ⟨0, by omega, by omega, rfl, Kept.refl _ _⟩
  rintro m e g again ⟨i, rfl, hi, rfl, kg⟩ ih
  have sg := SlItm.imp s (ok' := ok) (fun _ _ q => q) (keep_of kg.c (by simp))
  by_cases hlt : i < l.length
  · obtain ⟨x, hx⟩ : ∃ x, l[i]? = some x := ⟨_, List.getElem?_eq_getElem hlt⟩
    obtain ⟨b, o, c, cs, rfl, hlc, hk, hc, hI⟩ := sg.row (by omega)
    obtain ⟨es, lv, an, hg⟩ := cel_inv hc
    have hgs := lt_of_get hg
    obtain ⟨vt, vp, e5, e0, e1, e2, e3, e4, st, sp⟩ := id_at (hI i x hx).2 (hI i x hx).1
    have hw1 : IntKind.i64.wrap ((i : Int) + 1) = ((i + 1 : Nat) : Int) := by rw [wrap_id (by omega) (by omega)]; rfl
    obtain ⟨f1, f2⟩ := hs.1 x (List.mem_of_getElem? hx)
    have hto := st.one
    have hpo := sp.one
    have ht := st.len
    have hp := sp.len
    simp only [oneCell] at hto hpo
    have hle := (hI i x hx).1
    simp (disch := first | omega | (simp only [newRow_size, Array.size_setIfInBounds, Array.size_push]; done) | (simp only [newRow_size, Array.size_setIfInBounds, Array.size_push]; omega)) [l26_11, r26_4, r26_5, hg, e5, hto, hpo, eqT, eqF, neT, neF, ltT, ltF, leT, leF, nltT, nltF, nleT, nleF, nneT, nneF, List.getElem?_cons_zero, List.getElem?_cons_succ]
    have f3 : x.marker = true ∧ x.prts.length ≠ 0 ∧ x.chgs.length = 0 ∨ x.marker = false ∧ x.chgs.length ≠ 0 ∧ x.prts.length = 0 := by
      cases hmk : x.marker with
      | true =>
        obtain ⟨a1, a2⟩ := f2.1 hmk
        exact .inl ⟨rfl, fun e => a1 (List.length_eq_zero_iff.1 e), by rw [a2]; rfl⟩
      | false =>
        obtain ⟨a1, a2⟩ := f2.2 hmk
        exact .inr ⟨rfl, fun e => a1 (List.length_eq_zero_iff.1 e), by rw [a2]; rfl⟩
    have kR := rowKept g [.int .i64 x.stamp, .int .i64 x.after, .bool x.marker, vt, vp] 0 []
    by_cases hz : 0 < i
    · obtain ⟨y, hy⟩ : ∃ y, l[i - 1]? = some y := ⟨_, List.getElem?_eq_getElem (by omega)⟩
      obtain ⟨_, _, _, p0, _⟩ := id_at (hI (i - 1) y hy).2 (hI (i - 1) y hy).1
      have hle2 := (hI (i - 1) y hy).1
      have hw0 : IntKind.i64.wrap ((i : Int) - 1) = ((i - 1 : Nat) : Int) := by rw [wrap_id (by omega) (by omega)]; omega
      obtain ⟨n1, n2⟩ := hs.2 (i - 1) y x hy (by rw [show i - 1 + 1 = i by omega]; exact hx)
      simp (disch := first | omega | (simp only [newRow_size, Array.size_setIfInBounds, Array.size_push]; done) | (simp only [newRow_size, Array.size_setIfInBounds, Array.size_push]; omega)) [d26_6, f1, eqT, eqF, neT, neF, ltT, ltF, leT, leF, nltT, nltF, nleT, nleF, nneT, nneF, List.getElem?_cons_zero, List.getElem?_cons_succ, hw0, hg, p0]
      rcases f3 with ⟨m1, m2, m3⟩ | ⟨m1, m2, m3⟩
      · simp (disch := first | omega | (simp only [newRow_size, Array.size_setIfInBounds, Array.size_push]; done) | (simp only [newRow_size, Array.size_setIfInBounds, Array.size_push]; omega)) [r26_8, m1, m2, m3, ht, hp, eqT, eqF, neT, neF, ltT, ltF, leT, leF, nltT, nltF, nleT, nleF, nneT, nneF, List.getElem?_cons_zero, List.getElem?_cons_succ, r26_10, hw1]
        exact ih (l.length - (i + 1)) _ _ (by omega) ⟨i + 1, rfl, by omega, rfl, kg.trans (by rw [m1] at kR; exact kR)⟩
      · simp (disch := first | omega | (simp only [newRow_size, Array.size_setIfInBounds, Array.size_push]; done) | (simp only [newRow_size, Array.size_setIfInBounds, Array.size_push]; omega)) [r26_8, m1, m2, m3, ht, hp, eqT, eqF, neT, neF, ltT, ltF, leT, leF, nltT, nltF, nleT, nleF, nneT, nneF, List.getElem?_cons_zero, List.getElem?_cons_succ, r26_10, hw1]
        exact ih (l.length - (i + 1)) _ _ (by omega) ⟨i + 1, rfl, by omega, rfl, kg.trans (by rw [m1] at kR; exact kR)⟩
    · simp (disch := first | omega | (simp only [newRow_size, Array.size_setIfInBounds, Array.size_push]; done) | (simp only [newRow_size, Array.size_setIfInBounds, Array.size_push]; omega)) [d26_6, f1, eqT, eqF, neT, neF, ltT, ltF, leT, leF, nltT, nltF, nleT, nleF, nneT, nneF, List.getElem?_cons_zero, List.getElem?_cons_succ]
      rcases f3 with ⟨m1, m2, m3⟩ | ⟨m1, m2, m3⟩
      · simp (disch := first | omega | (simp only [newRow_size, Array.size_setIfInBounds, Array.size_push]; done) | (simp only [newRow_size, Array.size_setIfInBounds, Array.size_push]; omega)) [r26_8, m1, m2, m3, ht, hp, eqT, eqF, neT, neF, ltT, ltF, leT, leF, nltT, nltF, nleT, nleF, nneT, nneF, List.getElem?_cons_zero, List.getElem?_cons_succ, r26_10, hw1]
        exact ih (l.length - (i + 1)) _ _ (by omega) ⟨i + 1, rfl, by omega, rfl, kg.trans (by rw [m1] at kR; exact kR)⟩
      · simp (disch := first | omega | (simp only [newRow_size, Array.size_setIfInBounds, Array.size_push]; done) | (simp only [newRow_size, Array.size_setIfInBounds, Array.size_push]; omega)) [r26_8, m1, m2, m3, ht, hp, eqT, eqF, neT, neF, ltT, ltF, leT, leF, nltT, nltF, nleT, nleF, nneT, nneF, List.getElem?_cons_zero, List.getElem?_cons_succ, r26_10, hw1]
        exact ih (l.length - (i + 1)) _ _ (by omega) ⟨i + 1, rfl, by omega, rfl, kg.trans (by rw [m1] at kR; exact kR)⟩
  · by_cases hz : l.length = 0
    · simp (disch := first | omega | (simp only [newRow_size, Array.size_setIfInBounds, Array.size_push]; done) | (simp only [newRow_size, Array.size_setIfInBounds, Array.size_push]; omega)) [l26_11, r26_4, eqT, eqF, neT, neF, ltT, ltF, leT, leF, nltT, nltF, nleT, nleF, nneT, nneF, List.getElem?_cons_zero, List.getElem?_cons_succ, r26_12, hl, hz]
      subst hQ
      exact Ans.of ⟨rfl, kg⟩
    · obtain ⟨x, hx⟩ : ∃ x, l[l.length - 1]? = some x := ⟨_, List.getElem?_eq_getElem (by omega)⟩
      obtain ⟨b, o, c, cs, rfl, hlc, hk, hc, hI⟩ := sg.row (by omega)
      obtain ⟨es, lv, an, hg⟩ := cel_inv hc
      obtain ⟨_, _, _, p0, _⟩ := id_at (hI _ x hx).2 (hI _ x hx).1
      have hle2 := (hI _ x hx).1
      have hw0 : IntKind.i64.wrap ((l.length : Int) - 1) = ((l.length - 1 : Nat) : Int) := by rw [wrap_id (by omega) (by omega)]; omega
      have hla := hlast x hx
      simp (disch := first | omega | (simp only [newRow_size, Array.size_setIfInBounds, Array.size_push]; done) | (simp only [newRow_size, Array.size_setIfInBounds, Array.size_push]; omega)) [l26_11, r26_4, eqT, eqF, neT, neF, ltT, ltF, leT, leF, nltT, nltF, nleT, nleF, nneT, nneF, List.getElem?_cons_zero, List.getElem?_cons_succ, r26_12, hl, hz, hw0, hg, p0, hla]
      subst hQ
      exact Ans.of ⟨rfl, kg⟩

theorem putM_cases (q : Qm) (stamp : Int) (l : List Tgd) : (putM q stamp l).2 = q ∨ ((putM q stamp l) = (0, ⟨q.room, q.items ++ [⟨stamp, q.last, false, l, []⟩], stamp⟩) ∧ q.last < stamp ∧ l ≠ []) := by
  unfold putM
  split
  · exact .inl rfl
  rename_i h0
  split
  · exact .inl rfl
  rename_i h1
  split
  · exact .inl rfl
  refine .inr ⟨rfl, ?_, fun e => h1 (.inl e)⟩
  unfold fitsM at h0
  split at h0
  · simp at h0
  split at h0
  · simp at h0
  · omega

theorem collM_cases (q : Qm) (stamp : Int) (l : List Prt) : (collM q stamp l).2 = q ∨ ((collM q stamp l) = (0, ⟨q.room, [⟨stamp, afterM q, true, [], l⟩], stamp⟩) ∧ q.last < stamp ∧ l ≠ []) := by
  unfold collM
  split
  · exact .inl rfl
  rename_i h0
  split
  · exact .inl rfl
  rename_i h1
  split
  · exact .inl rfl
  refine .inr ⟨rfl, ?_, h1⟩
  unfold fitsM at h0
  split at h0
  · simp at h0
  split at h0
  · simp at h0
  · omega

/-- What holds of the items of every queue. -/
structure Qm.Sound (q : Qm) : Prop where
  each : ∀ x ∈ q.items, x.after < x.stamp ∧ x.Shape
  pair : q.items.Pairwise fun x y => x.stamp ≤ y.after
  last : ∀ x, q.items.getLast? = some x → x.stamp = q.last

theorem Qm.Sound.new (room b : Int) : (Qm.new room b).Sound := ⟨by simp [Qm.new], by simp [Qm.new], by simp [Qm.new]⟩

theorem Qm.Sound.put {q : Qm} (s : q.Sound) (g : q.Good) (stamp : Int) (l : List Tgd) : (putM q stamp l).2.Sound := by
  rcases putM_cases q stamp l with e | ⟨e, h1, h2⟩
  · rw [e]; exact s
  · rw [e]
    refine ⟨?_, ?_, ?_⟩
    · intro x hx
      rcases List.mem_append.1 hx with hx | hx
      · exact s.each x hx
      · simp at hx; subst hx
        exact ⟨h1, by simp [Itm.Shape, h2]⟩
    · refine List.pairwise_append.2 ⟨s.pair, by simp, fun a ha b hb => ?_⟩
      simp at hb; subst hb
      exact g.bnd a ha
    · intro x hx
      simp at hx
      subst hx; rfl

theorem Qm.Sound.coll {q : Qm} (s : q.Sound) (g : q.Good) (stamp : Int) (l : List Prt) : (collM q stamp l).2.Sound := by
  rcases collM_cases q stamp l with e | ⟨e, h1, h2⟩
  · rw [e]; exact s
  · rw [e]
    have ha : afterM q ≤ q.last := by
      unfold afterM
      split
      · exact Int.le_refl _
      · rename_i x r hq
        have h3 := (s.each x (by rw [hq]; simp)).1
        have h4 := g.bnd x (by rw [hq]; simp)
        omega
    refine ⟨?_, by simp, ?_⟩
    · intro x hx
      simp at hx; subst hx
      exact ⟨by show afterM q < stamp; omega, by simp [Itm.Shape, h2]⟩
    · intro x hx
      simp at hx; subst hx; rfl

theorem Qm.Sound.took {q : Qm} (s : q.Sound) (stamp : Int) : (tookM q stamp).2.Sound := by
  have hs := dropWhile_sub (fun x : Itm => decide (x.stamp ≤ stamp)) q.items
  refine ⟨fun x hx => s.each x (hs.subset hx), s.pair.sublist hs, fun x hx => ?_⟩
  have hsu := List.dropWhile_suffix (fun x : Itm => decide (x.stamp ≤ stamp)) (l := q.items)
  obtain ⟨p, hp⟩ := hsu
  refine s.last x ?_
  rw [← hp]
  have hx' : (List.dropWhile (fun x : Itm => decide (x.stamp ≤ stamp)) q.items).getLast? = some x := hx
  rw [List.getLast?_append, hx']; rfl

theorem Qm.Good.step {q : Qm} (g : q.Good) (x : Stp) : (stepM q x).Good := by
  unfold stepM
  split
  · exact g.put _ _
  split
  · exact g.coll _ _
  split
  · exact g.took _
  · exact g
theorem Qm.Sound.step {q : Qm} (s : q.Sound) (g : q.Good) (x : Stp) : (stepM q x).Sound := by
  unfold stepM
  split
  · exact s.put g _ _
  split
  · exact s.coll g _ _
  split
  · exact s.took _
  · exact s

theorem Qm.Sound.list {q : Qm} (s : q.Sound) (g : q.Good) : SoundL q.items := by
  refine ⟨s.each, fun i x y hx hy => ?_⟩
  obtain ⟨h1, e1⟩ := List.getElem?_eq_some_iff.1 hx
  obtain ⟨h2, e2⟩ := List.getElem?_eq_some_iff.1 hy
  have a := List.pairwise_iff_getElem.1 s.pair i (i + 1) h1 h2 (by omega)
  have b := List.pairwise_iff_getElem.1 g.rise i (i + 1) h1 h2 (by omega)
  rw [e1, e2] at a b
  exact ⟨a, b⟩

theorem stepM_room (q : Qm) (x : Stp) : (stepM q x).room = q.room := by
  unfold stepM
  split
  · rcases putM_cases q x.stamp x.chgs with e | ⟨e, _⟩ <;> rw [e]
  split
  · rcases collM_cases q x.stamp x.prts with e | ⟨e, _⟩ <;> rw [e]
  split
  · rfl
  · rfl
theorem stepM_last (q : Qm) (x : Stp) : q.last ≤ (stepM q x).last := by
  unfold stepM
  split
  · rcases putM_cases q x.stamp x.chgs with e | ⟨e, h, _⟩
    · rw [e]; exact Int.le_refl _
    · rw [e]; exact Int.le_of_lt h
  split
  · rcases collM_cases q x.stamp x.prts with e | ⟨e, h, _⟩
    · rw [e]; exact Int.le_refl _
    · rw [e]; exact Int.le_of_lt h
  split
  · exact Int.le_refl _
  · exact Int.le_refl _

/-- The lists of all items are short. -/
theorem stepM_short {q : Qm} (hs : ShortI q.items) (g : q.Good) (x : Stp) (hx : x.Short) : ShortI (stepM q x).items := by
  have gl := (g.step x).len
  have gr := (g.step x).room
  refine ⟨by omega, fun y hy => ?_⟩
  unfold stepM at hy
  split at hy
  · rcases putM_cases q x.stamp x.chgs with e | ⟨e, h, _⟩
    · rw [e] at hy; exact hs.2 y hy
    · rw [e] at hy
      rcases List.mem_append.1 hy with hy | hy
      · exact hs.2 y hy
      · simp at hy; subst hy
        exact ⟨hx.1, by simp [ShortP]⟩
  split at hy
  · rcases collM_cases q x.stamp x.prts with e | ⟨e, h, _⟩
    · rw [e] at hy; exact hs.2 y hy
    · rw [e] at hy
      simp at hy; subst hy
      exact ⟨by simp [ShortT], hx.2⟩
  split at hy
  · exact hs.2 y ((dropWhile_sub _ q.items).subset hy)
  · exact hs.2 y hy

end Go.Proofs.Ytkkagpchcefidaa

/- QueueSound. -/
set_option linter.unusedSimpArgs false
set_option linter.unusedVariables false
namespace Go.Proofs.Ytkkagpchcefidaa
open Go.Ev

theorem Kept.low {h g g' : H} {L : List Nat} (k : Kept h g []) (k2 : Kept g g' L) (hL : ∀ c ∈ L, h.size ≤ c) : Kept h g' [] :=
  ⟨Nat.le_trans k.1 k2.1, fun c hc _ => (k2.get (Nat.lt_of_lt_of_le hc k.1) (fun q => by have := hL c q; omega)).trans (k.get hc (by simp))⟩

theorem next99 {q : Qm} (g : q.Good) : nextM q 99 = q.items := by
  have := g.len
  have := g.room
  unfold nextM
  exact List.take_of_length_le (by simp; omega)

theorem last_get {l : List Itm} : l[l.length - 1]? = l.getLast? := by
  rw [List.getLast?_eq_getElem?]

theorem queueSound_spec {F : Nat} (hF : 17592186044450 ≤ F) {h : H} (room begin' kk : Int) {v : Value} {script : List Stp} (s : SlR (fun b => b < h.size) 5 (StpC (fun b => b < h.size)) h v script) (hs : ∀ x ∈ script, x.Short) :
    Ans (cf F 10 [.int .i64 room, .int .i64 begin', v, .int .i64 kk] h) fun u h' => u = .bool true := by
  generalize hQ : (fun (u : Value) (h' : H) => u = Value.bool true) = Q
  obtain ⟨F, rfl⟩ : ∃ G, F = G + 1 := ⟨F - 1, by omega⟩
  rw [cf_step (a := a10) rfl rfl (by simp [a10])]
  have hl := s.len
  by_cases hroom : room < 1 ∨ 32 < room
  · simp (disch := first | omega | (simp only [newRow_size, Array.size_setIfInBounds, Array.size_push]; done) | (simp only [newRow_size, Array.size_setIfInBounds, Array.size_push]; omega)) [a10, r10_0, r10_1, New_bad1 (F := F) (by omega) h room begin' hroom, r10_2, num_eq (F := F) (by omega), r10_3, eqT, eqF, neT, neF, ltT, ltF, leT, leF, nltT, nltF, nleT, nleF, nneT, nneF, List.getElem?_cons_zero, List.getElem?_cons_succ]
    refine Ans.next (known_spec (F := F) (by omega) h) ?_
    rintro u h2 ⟨rfl, k2⟩
    simp (disch := first | omega | (simp only [newRow_size, Array.size_setIfInBounds, Array.size_push]; done) | (simp only [newRow_size, Array.size_setIfInBounds, Array.size_push]; omega)) []
    subst hQ
    exact Ans.of rfl
  by_cases hbeg : begin' < 0 ∨ 2147483647 < begin'
  · simp (disch := first | omega | (simp only [newRow_size, Array.size_setIfInBounds, Array.size_push]; done) | (simp only [newRow_size, Array.size_setIfInBounds, Array.size_push]; omega)) [a10, r10_0, r10_1, New_bad2 (F := F) (by omega) h room begin' (by omega) (by omega) hbeg, r10_2, num_eq (F := F) (by omega), r10_3, eqT, eqF, neT, neF, ltT, ltF, leT, leF, nltT, nltF, nleT, nleF, nneT, nneF, List.getElem?_cons_zero, List.getElem?_cons_succ]
    refine Ans.next (known_spec (F := F) (by omega) h) ?_
    rintro u h2 ⟨rfl, k2⟩
    simp (disch := first | omega | (simp only [newRow_size, Array.size_setIfInBounds, Array.size_push]; done) | (simp only [newRow_size, Array.size_setIfInBounds, Array.size_push]; omega)) []
    subst hQ
    exact Ans.of rfl
  simp (disch := first | omega | (simp only [newRow_size, Array.size_setIfInBounds, Array.size_push]; done) | (simp only [newRow_size, Array.size_setIfInBounds, Array.size_push]; omega)) [a10, r10_0, r10_1]
  refine Ans.next (New_spec (F := F) (by omega) h room begin' (by omega) (by omega) (by omega) (by omega)) ?_
  rintro v1 h1 ⟨b, r, rfl, s1, zb, zr, hb, hr, hbr, k1⟩
  have sQ := s1 (since h1.size) (by simp; omega) (by simp; omega)
  have y1 := k1.1
  simp (disch := first | omega | (simp only [newRow_size, Array.size_setIfInBounds, Array.size_push]; done) | (simp only [newRow_size, Array.size_setIfInBounds, Array.size_push]; omega)) [r10_2, num_eq (F := F) (by omega), eqT, eqF, neT, neF, ltT, ltF, leT, leF, nltT, nltF, nleT, nleF, nneT, nneF, List.getElem?_cons_zero, List.getElem?_cons_succ, r10_4, r10_5]
  refine loop_rule (fun m e g => ∃ (i first : Nat) (q : Qm), m = 150 - i ∧ i ≤ 150 ∧ e = [(0, .int .i64 room), (2, v), (3, .int .i64 kk), (9, .pointer (some ⟨b, 0, none⟩)), (11, .int .i64 q.last), (12, .int .i64 i)] ∧ QAt (since h1.size) g b 0 (some r) first q ∧ q.Good ∧ q.Sound ∧ (q.room : Int) = room ∧ ShortI q.items ∧ Kept h g [] ∧ h1.size ≤ g.size) ?_ _ 150 _ _ (by omega) ⟨0, 0, Qm.new room begin', by omega, by omega, rfl, sQ, Qm.Good.new (by omega) (by omega) (by omega) (by omega), Qm.Sound.new _ _, by simp [Qm.new]; omega, by simp [Qm.new, ShortI], k1, Nat.le_refl _⟩
  rintro m e g again ⟨i, first, q, rfl, hi, rfl, sq, gq, soq, hrq, shq, kg, yg⟩ ih
  have hw1 : IntKind.i64.wrap ((i : Int) + 1) = ((i + 1 : Nat) : Int) := by rw [wrap_id (by omega) (by omega)]; rfl
  by_cases hlt : i < script.length ∧ i < 150
  · obtain ⟨x, hx⟩ : ∃ x, script[i]? = some x := ⟨_, List.getElem?_eq_getElem hlt.1⟩
    have sg := SlR.imp s (ok' := fun b => b < h.size) (R' := StpC (fun b => b < h.size)) (h' := g) (fun _ _ q => q) (fun cs x _ q => StpC.imp q (fun _ _ q => q) (keep_of kg.c (by simp))) (keep_of kg.c (by simp))
    obtain ⟨b', o, c, cs, es, lv, an, rfl, hk, hg, hle, hx5⟩ := sg.at' hx
    have hcl : ((cs.drop (o + i * 5)).take 5).length = 5 := by simp; omega
    simp (disch := first | omega | (simp only [newRow_size, Array.size_setIfInBounds, Array.size_push]; done) | (simp only [newRow_size, Array.size_setIfInBounds, Array.size_push]; omega)) [l10_15, r10_6, r10_7, hg, hl, eqT, eqF, neT, neF, ltT, ltF, leT, leF, nltT, nltF, nleT, nleF, nneT, nneF, List.getElem?_cons_zero, List.getElem?_cons_succ]
    have hxs := hs x (List.mem_of_getElem? hx)
    refine Ans.next (step_spec (F := F) (by omega) sq gq hx5 (by simp; omega) (by rintro c e; cases e; simp; omega) hxs (fun c hc => by show h1.size ≤ c; omega)) ?_
    rintro u h2 ⟨rfl, f2, s2, k2⟩
    have g2 := gq.step x
    have so2 := soq.step gq x
    have hr2 := stepM_room q x
    have hl2 := stepM_last q x
    have sh2 := stepM_short shq gq x hxs
    have ks2 := Kept.low kg k2 (by simp; omega)
    have y2 := k2.1
    generalize stepM q x = q2 at s2 g2 so2 hr2 hl2 sh2
    simp (disch := first | omega | (simp only [newRow_size, Array.size_setIfInBounds, Array.size_push]; done) | (simp only [newRow_size, Array.size_setIfInBounds, Array.size_push]; omega)) [r10_8]
    refine Ans.next (Next_spec (F := F) (by omega) s2 g2 sh2 99) ?_
    rintro vl h3 ⟨b3, s3, k3⟩
    rw [next99 g2] at b3
    have y3 := k3.1
    have ks3 := Kept.low ks2 k3 (by simp; omega)
    simp (disch := first | omega | (simp only [newRow_size, Array.size_setIfInBounds, Array.size_push]; done) | (simp only [newRow_size, Array.size_setIfInBounds, Array.size_push]; omega)) [r10_9]
    refine Ans.next (Next_spec (F := F) (by omega) s3 g2 sh2 kk) ?_
    rintro vm h4 ⟨b4, s4, k4⟩
    have y4 := k4.1
    have ks4 := Kept.low ks3 k4 (by simp; omega)
    have l3 := b3.sl.len
    have hN : (nextM q2 kk).length = min kk.toNat q2.items.length := by simp [nextM]
    have hm2 : (if (q2.items.length : Int) < (if kk < 0 then (0 : Int) else kk) then (q2.items.length : Int) else if kk < 0 then (0 : Int) else kk) = ((nextM q2 kk).length : Int) := by
      split <;> split at * <;> omega
    have nb : ∀ c ∈ [b], ¬ since h2.size c := by simp; omega
    have sl4 := SlItm.imp b3.sl (ok' := since h2.size) (fun _ _ q => q) (keep_of k4.c nb)
    obtain ⟨vs, es1, ss1⟩ := b3.take (n := (nextM q2 kk).length) (by omega)
    have htk : q2.items.take (nextM q2 kk).length = nextM q2 kk := by
      rw [hN, nextM]
      rcases Nat.le_total kk.toNat q2.items.length with e | e
      · rw [Nat.min_eq_left e]
      · rw [Nat.min_eq_right e, List.take_of_length_le (Nat.le_refl _), List.take_of_length_le e]
    rw [htk] at ss1
    have ss4 := SlItm.imp ss1 (ok' := since h2.size) (fun _ _ q => q) (keep_of k4.c nb)
    have gl2 := g2.len
    have gr2 := g2.room
    simp (disch := first | omega | (simp only [newRow_size, Array.size_setIfInBounds, Array.size_push]; done) | (simp only [newRow_size, Array.size_setIfInBounds, Array.size_push]; omega)) [r10_10, l3, hm2, eqT, eqF, neT, neF, ltT, ltF, leT, leF, nltT, nltF, nleT, nleF, nneT, nneF, List.getElem?_cons_zero, List.getElem?_cons_succ, r10_11, Last_eq (F := F) (by omega) s4, Len_eq (F := F) (by omega) s4]
    refine Ans.next (sound_spec (F := F) (by omega) sl4 room q2.last (by omega) (by omega) (so2.list g2) (fun y hy => so2.last y (by rw [last_get] at hy; exact hy))) ?_
    rintro u h5 ⟨rfl, k5⟩
    have y5 := k5.1
    simp (disch := first | omega | (simp only [newRow_size, Array.size_setIfInBounds, Array.size_push]; done) | (simp only [newRow_size, Array.size_setIfInBounds, Array.size_push]; omega)) [es1]
    have shN : ShortI (nextM q2 kk) := ⟨by omega, fun t ht => sh2.2 t (List.mem_of_mem_take ht)⟩
    refine Ans.next (items_same (F := F) (by omega) (SlItm.imp b4.sl (ok' := since h3.size) (fun _ _ q => q) (keep_of k5.c (by simp))) (SlItm.imp ss4 (ok' := since h2.size) (fun _ _ q => q) (keep_of k5.c (by simp))) shN) ?_
    rintro u h6 ⟨rfl, k6⟩
    have y6 := k6.1
    have s6 := (s4.frame k5).frame k6
    simp (disch := first | omega | (simp only [newRow_size, Array.size_setIfInBounds, Array.size_push]; done) | (simp only [newRow_size, Array.size_setIfInBounds, Array.size_push]; omega)) [r10_13, Last_eq (F := F) (by omega) s6, r10_14, hw1]
    exact ih (150 - (i + 1)) _ _ (by omega) ⟨i + 1, f2, q2, rfl, by omega, rfl, s6, g2, so2, by rw [hr2]; exact hrq, sh2, (ks4.trans k5).trans k6, by omega⟩
  · have hf : ∀ (Q' : Value → H → Prop), True := fun _ => trivial
    by_cases h1' : i < script.length
    · simp (disch := first | omega | (simp only [newRow_size, Array.size_setIfInBounds, Array.size_push]; done) | (simp only [newRow_size, Array.size_setIfInBounds, Array.size_push]; omega)) [l10_15, r10_6, hl, eqT, eqF, neT, neF, ltT, ltF, leT, leF, nltT, nltF, nleT, nleF, nneT, nneF, List.getElem?_cons_zero, List.getElem?_cons_succ, r10_16]
      refine Ans.next (known_spec (F := F) (by omega) g) ?_
      rintro u h2 ⟨rfl, k2⟩
      simp (disch := first | omega | (simp only [newRow_size, Array.size_setIfInBounds, Array.size_push]; done) | (simp only [newRow_size, Array.size_setIfInBounds, Array.size_push]; omega)) []
      subst hQ
      exact Ans.of rfl
    · simp (disch := first | omega | (simp only [newRow_size, Array.size_setIfInBounds, Array.size_push]; done) | (simp only [newRow_size, Array.size_setIfInBounds, Array.size_push]; omega)) [l10_15, r10_6, hl, eqT, eqF, neT, neF, ltT, ltF, leT, leF, nltT, nltF, nleT, nleF, nneT, nneF, List.getElem?_cons_zero, List.getElem?_cons_succ, r10_16]
      refine Ans.next (known_spec (F := F) (by omega) g) ?_
      rintro u h2 ⟨rfl, k2⟩
      simp (disch := first | omega | (simp only [newRow_size, Array.size_setIfInBounds, Array.size_push]; done) | (simp only [newRow_size, Array.size_setIfInBounds, Array.size_push]; omega)) []
      subst hQ
      exact Ans.of rfl

end Go.Proofs.Ytkkagpchcefidaa

/- Lists of stamps; tagged. -/
set_option linter.unusedSimpArgs false
set_option linter.unusedVariables false
namespace Go.Ev

/-- A list that was built by append, or the end of one. -/
def BldO {α : Type} (ok : Nat → Prop) (w : Nat) (R : H → List Value → α → Prop) (h : H) (v : Value) (xs : List α) : Prop :=
  (v = .slice none 0 0 ∧ xs = []) ∨
  ∃ b o cs an, v = .slice (some ⟨b, o, none⟩) xs.length xs.length ∧ ok b ∧ hget h b = some (.cells cs w true an) ∧ o + xs.length * w = cs.length ∧ ∀ (i : Nat) (x : α), xs[i]? = some x → R h ((cs.drop (o + i * w)).take w) x

section
variable {α : Type} {ok : Nat → Prop} {w : Nat} {R : H → List Value → α → Prop} {h h' : H} {v : Value} {xs : List α} {L : List Nat}

theorem BldO.nil (ok : Nat → Prop) (w : Nat) (R : H → List Value → α → Prop) (h : H) : BldO ok w R h (.slice none 0 0) [] := .inl ⟨rfl, rfl⟩

theorem Bld.o (s : Bld ok w R h v xs) : BldO ok w R h v xs := by
  rcases s with e | ⟨b, cs, an, e, hk, hb, hl, hi⟩
  · exact .inl e
  · exact .inr ⟨b, 0, cs, an, e, hk, hb, by omega, fun i x hx => by rw [Nat.zero_add]; exact hi i x hx⟩

theorem BldO.sl (s : BldO ok w R h v xs) : SlR ok w R h v xs := by
  rcases s with ⟨e, e'⟩ | ⟨b, o, cs, an, e, hk, hb, hl, hi⟩
  · exact .inl ⟨.inl e, e'⟩
  · refine .inr ⟨b, o, xs.length, cs, e, Nat.le_refl _, hk, cel_of hb, fun i x hx => ⟨?_, hi i x hx⟩⟩
    have hi' := (List.getElem?_eq_some_iff.1 hx).1
    have : (i + 1) * w ≤ xs.length * w := Nat.mul_le_mul_right _ (by omega)
    rw [Nat.add_mul] at this
    omega

theorem BldO.ne (s : BldO ok w R h v xs) {b : Nat} (hb : ¬ ok b) : ∀ o n c, v ≠ .slice (some ⟨b, o, none⟩) n c := by
  rintro o n c e
  rcases s with ⟨e', _⟩ | ⟨b', o', cs, an, e', hk, _⟩
  · rw [e] at e'; cases e'
  · rw [e] at e'
    injection e' with e' _ _
    injection e' with e'
    injection e' with e' _ _
    subst e'
    exact hb hk

theorem BldO.kept (s : BldO ok w R h v xs) (k : Kept h h' L) (hL : ∀ b ∈ L, ¬ ok b) (hR : ∀ cs, ∀ x ∈ xs, R h cs x → R h' cs x) : BldO ok w R h' v xs := by
  rcases s with e | ⟨b, o, cs, an, e, hk, hb, hl, hi⟩
  · exact .inl e
  · exact .inr ⟨b, o, cs, an, e, hk, (k.get (lt_of_get hb) (fun q => hL b q hk)).trans hb, hl, fun i x hx => hR _ x (List.mem_of_getElem? hx) (hi i x hx)⟩

theorem BldO.drop (s : BldO ok w R h v xs) {n : Nat} (hn : n ≤ xs.length) : ∃ v', slcV w v (some (.int .i64 n)) none = some v' ∧ BldO ok w R h v' (xs.drop n) := by
  rcases s with ⟨rfl, rfl⟩ | ⟨b, o, cs, an, rfl, hk, hb, hl, hi⟩
  · simp at hn; subst hn
    exact ⟨.slice none 0 0, by simp [slcV, optInt], .inl ⟨rfl, rfl⟩⟩
  · refine ⟨.slice (some ⟨b, o + n * w, none⟩) (xs.length - n) (xs.length - n), by simp [slcV, optInt, hn], .inr ⟨b, o + n * w, cs, an, ?_, hk, hb, ?_, ?_⟩⟩
    · rw [List.length_drop]
    · rw [List.length_drop]
      have : (n + (xs.length - n)) * w = xs.length * w := by congr 1; omega
      rw [Nat.add_mul] at this
      omega
    · intro i x hx
      rw [List.getElem?_drop] at hx
      have := hi (n + i) x hx
      rw [Nat.add_mul] at this
      rw [Nat.add_assoc]; exact this

/-- One element put behind. -/
theorem BldO.app {bytes : Nat} (s : BldO ok w R h v xs) {new : List Value} {x : α} (hn : new.length = w) (hb : (xs.length + 1) * bytes ≤ 2 ^ 47)
    (hok : ok h.size) (hR : ∀ h', KeptC h h' [] → ∀ cs, ∀ y ∈ xs, R h cs y → R h' cs y) (hx : ∀ h', KeptC h h' [] → R h' new x) :
    Ans (appendTo h w bytes v 1 new) fun v' h' => BldO ok w R h' v' (xs ++ [x]) ∧ KeptC h h' [] ∧ h.size ≤ h'.size ∧ (∀ b, b < h.size → (∀ o n c, v ≠ .slice (some ⟨b, o, none⟩) n c) → hget h' b = hget h b) := by
  rcases s with ⟨rfl, rfl⟩ | ⟨b, o, cs, an, rfl, hk, hg, hl, hi⟩
  · refine (Bld.app (w := w) (R := R) (ok := ok) (bytes := bytes) (x := x) (.inl ⟨rfl, rfl⟩) hn hb hok hR hx).mono ?_
    rintro v' h' ⟨a, k, y, g, _⟩
    exact ⟨a.o, k, k.1, g⟩
  · have hbs := lt_of_get hg
    have kc : KeptC h (newRow (h.setIfInBounds b (.cells cs w false an)) (((cs.drop o).take (xs.length * w)) ++ new) w (b :: an)) [] := by
      refine ⟨by simp, fun c hc _ => ?_⟩
      by_cases e : b = c
      · subst e
        rw [cel_of hg]
        exact cel_of (es := w) (lv := false) (an := an) (by simp [hbs])
      · exact cel_congr (by simp [hc, e])
    have e2 : (cs.drop o).take (xs.length * w) = cs.drop o := List.take_of_length_le (by rw [List.length_drop]; omega)
    have hb' : (xs.length + 1) * bytes ≤ 140737488355328 := by simpa using hb
    rw [e2] at kc
    refine ⟨.slice (some ⟨h.size, 0, none⟩) (xs.length + 1) (xs.length + 1), newRow (h.setIfInBounds b (.cells cs w false an)) (cs.drop o ++ new) w (b :: an), ?_, ?_, kc, by simp, ?_⟩
    · have hnl : ¬ xs.length + 1 ≤ xs.length := by omega
      have hle : o + xs.length * w ≤ cs.length := by omega
      simp [appendTo, hb', hg, hl, hle, hnl, e2]
    · refine .inr ⟨h.size, 0, cs.drop o ++ new, b :: an, by simp, hok, by simp, ?_, ?_⟩
      · simp [hn, Nat.add_mul]; omega
      · intro i y hy
        have hcl : (cs.drop o).length = xs.length * w := by rw [List.length_drop]; omega
        by_cases hi' : i < xs.length
        · rw [List.getElem?_append_left hi'] at hy
          rw [Nat.zero_add, drop_take_append (cs.drop o) new xs.length w i hcl hi', List.drop_drop]
          exact hR _ kc _ _ (List.mem_of_getElem? hy) (hi i y hy)
        · rw [List.getElem?_append_right (by omega)] at hy
          have h0 : i - xs.length = 0 := by
            have := (List.getElem?_eq_some_iff.1 hy).1
            simp at this; omega
          rw [h0] at hy
          simp at hy
          subst hy
          have := take_at_end (cs.drop o) new xs.length w hcl hn
          rw [Nat.zero_add, show i = xs.length by omega, this]
          exact hx _ kc
    · intro c hc hn'
      have : ¬ b = c := fun e => hn' o _ _ (by rw [e])
      simp [hc, this]

end
end Go.Ev
namespace Go.Proofs.Ytkkagpchcefidaa
open Go.Ev

theorem QAt.keptC {ok : Nat → Prop} {h h' : H} {b : Nat} {lk : Int} {r : Option Nat} {first : Nat} {q : Qm} (s : QAt ok h b lk r first q) (kb : hget h' b = hget h b) (kr : ∀ c, r = some c → hget h' c = hget h c) (kc : KeptC h h' []) : QAt ok h' b lk r first q := by
  refine ⟨kb.trans s.at', s.no, ?_, s.okb⟩
  intro c e
  obtain ⟨h1, h2, h3, h4, cs, h5, h6⟩ := s.yes c e
  exact ⟨h1, h2, h3, h4, cs, (kr c e).trans h5, h6.kc kc (by simp)⟩

theorem tagged_spec {F : Nat} (hF : 17592186044420 ≤ F) {ok : Nat → Prop} {h : H} {v : Value} {xs : List Tgd} (s : SlR ok 5 (TgdC ok) h v xs) (hs : xs.length ≤ 1954687338268) :
    Ans (cf F 28 [v] h) fun u h' => u = .bool (!(bare xs)) ∧ Kept h h' [] := by
  generalize hQ : (fun (u : Value) (h' : H) => u = .bool (!(bare xs)) ∧ Kept h h' []) = Q
  obtain ⟨F, rfl⟩ : ∃ G, F = G + 1 := ⟨F - 1, by omega⟩
  rw [cf_step (a := a28) rfl rfl (by simp [a28])]
  have hl := s.len
  simp (disch := first | omega | (simp only [newRow_size, Array.size_setIfInBounds, Array.size_push]; done) | (simp only [newRow_size, Array.size_setIfInBounds, Array.size_push]; omega)) [a28, r28_0, r28_1, eqT, eqF, neT, neF, ltT, ltF, leT, leF, nltT, nltF, nleT, nleF, nneT, nneF, List.getElem?_cons_zero, List.getElem?_cons_succ]
  refine loop_rule (fun m e g => ∃ (i : Nat), m = xs.length - i ∧ i ≤ xs.length ∧ e = [(0, v), (3, .int .i64 i)] ∧ g = h ∧ bare (xs.take i) = false) ?_ _ xs.length _ _ (by omega) ⟨0, by omega, by omega, rfl, rfl, rfl⟩
  rintro m e g again ⟨i, rfl, hi, rfl, rfl, hb⟩ ih
  by_cases hlt : i < xs.length
  · obtain ⟨x, hx⟩ : ∃ x, xs[i]? = some x := ⟨_, List.getElem?_eq_getElem hlt⟩
    obtain ⟨b, o, c, cs, es, lv, an, rfl, hk, hg, hle, hR⟩ := s.at' hx
    obtain ⟨vt, _, _, e4, st⟩ := hd_at hR hle
    have hw : IntKind.i64.wrap ((i : Int) + 1) = ((i + 1 : Nat) : Int) := by rw [IntKind.wrap_i64]; omega
    have ht := st.len
    by_cases hz : x.tags.length = 0
    · simp (disch := first | omega | (simp only [newRow_size, Array.size_setIfInBounds, Array.size_push]; done) | (simp only [newRow_size, Array.size_setIfInBounds, Array.size_push]; omega)) [l28_6, r28_2, hl, r28_3, hg, e4, ht, hz, eqT, eqF, neT, neF, ltT, ltF, leT, leF, nltT, nltF, nleT, nleF, nneT, nneF, List.getElem?_cons_zero, List.getElem?_cons_succ, r28_4]
      subst hQ
      have hbt : bare xs = true := by
        rw [bare_iff]
        exact ⟨x, List.mem_of_getElem? hx, List.length_eq_zero_iff.1 hz⟩
      exact Ans.of ⟨by rw [hbt]; rfl, Kept.refl _ _⟩
    · simp (disch := first | omega | (simp only [newRow_size, Array.size_setIfInBounds, Array.size_push]; done) | (simp only [newRow_size, Array.size_setIfInBounds, Array.size_push]; omega)) [l28_6, r28_2, hl, r28_3, hg, e4, ht, hz, eqT, eqF, neT, neF, ltT, ltF, leT, leF, nltT, nltF, nleT, nleF, nneT, nneF, List.getElem?_cons_zero, List.getElem?_cons_succ, r28_5, hw]
      refine ih _ _ _ (by omega) ⟨i + 1, rfl, by omega, rfl, rfl, ?_⟩
      rw [take_snoc hx]
      simp only [bare] at hb ⊢
      rw [List.any_append, hb]
      simp
      intro e
      rw [e] at hz; simp at hz
  · have hxi : i = xs.length := by omega
    subst hxi
    rw [List.take_length] at hb
    simp (disch := first | omega | (simp only [newRow_size, Array.size_setIfInBounds, Array.size_push]; done) | (simp only [newRow_size, Array.size_setIfInBounds, Array.size_push]; omega)) [l28_6, r28_2, hl, eqT, eqF, neT, neF, ltT, ltF, leT, leF, nltT, nltF, nleT, nleF, nneT, nneF, List.getElem?_cons_zero, List.getElem?_cons_succ, r28_7]
    subst hQ
    exact Ans.of ⟨by rw [hb]; rfl, Kept.refl _ _⟩

end Go.Proofs.Ytkkagpchcefidaa

/- QueueReader: the parts. -/
set_option linter.unusedSimpArgs false
set_option linter.unusedVariables false
namespace Go.Proofs.Ytkkagpchcefidaa
open Go.Ev

def swa : ACode := (.seq (.region r12_10 [2, 3, 9, 11, 12, 13, 14, 15, 59]) (.cond (.tmp 59) (.seq (.region r12_11 [2, 3, 9, 11, 12, 13, 14, 15, 67]) (.cond (.tmp 67) (.region r12_12 [2, 3, 9, 11, 12, 13, 14]) .skip)) (.seq (.region r12_13 [2, 3, 9, 11, 12, 13, 14, 15, 75]) (.cond (.tmp 75) (.region r12_14 [2, 3, 9, 11, 12, 13, 14]) .skip))))
def swb : ACode := (.seq (.region r12_19 [2, 3, 9, 11, 12, 13, 14, 16, 17, 138]) (.cond (.tmp 138) (.seq (.region r12_20 [2, 3, 9, 11, 12, 13, 14, 16, 18]) (.seq (.seq (.region r12_21 [2, 3, 9, 11, 12, 14, 16, 18, 153]) (.cond (.tmp 153) (.seq (.region r12_22 [8]) .ret) .skip)) (.region r12_23 [2, 3, 9, 11, 12, 13, 14, 16]))) .skip))
theorem l12_split : l12_27 = (.seq (.seq (.region r12_8 [2, 3, 9, 11, 12, 13, 14, 50]) (.cond (.tmp 50) .skip (.exit 0))) (.seq (.block 1 (.seq (.region r12_9 [2, 3, 9, 11, 12, 13, 14, 15]) (.seq swa (.seq (.region r12_15 [2, 3, 9, 11, 12, 13, 14]) (.seq (.seq (.region r12_16 [2, 3, 9, 11, 12, 13, 14, 90]) (.cond (.tmp 90) (.exit 1) .skip)) (.seq (.region r12_17 [2, 3, 9, 11, 12, 13, 14, 16]) (.seq (.region r12_18 [2, 3, 9, 11, 12, 13, 14, 16, 17]) (.seq swb (.seq (.region r12_24 [2, 3, 9, 11, 12, 13, 14, 157]) (.cond (.tmp 157) (.region r12_25 [2, 3, 9, 11, 12, 13, 14]) .skip)))))))))) (.region r12_26 [2, 3, 9, 11, 12, 13, 14]))) := rfl

theorem miss_spec {F : Nat} (hF : 100 ≤ F) {ok : Nat → Prop} {h : H} {v : Value} {ps : List Int} (s : SlR ok 1 IntC h v ps) (hl : ps.length ≤ 60) (lo hi : Int) (hno : ∀ p ∈ ps, ¬ (lo < p ∧ p < hi)) :
    cf F 31 [v, .int .i64 lo, .int .i64 hi] h = some (.bool false, h) := by
  have a : Ans (cf F 31 [v, .int .i64 lo, .int .i64 hi] h) fun u h' => u = .bool false ∧ h' = h := by
    generalize hQ : (fun (u : Value) (h' : H) => u = .bool false ∧ h' = h) = Q
    obtain ⟨F, rfl⟩ : ∃ G, F = G + 1 := ⟨F - 1, by omega⟩
    rw [cf_step (a := a31) rfl rfl (by simp [a31])]
    have hln := s.len
    simp (disch := first | omega | (simp only [newRow_size, Array.size_setIfInBounds, Array.size_push]; done) | (simp only [newRow_size, Array.size_setIfInBounds, Array.size_push]; omega)) [a31, r31_0, r31_1]
    refine loop_rule (fun m e g => ∃ (i : Nat), m = ps.length - i ∧ i ≤ ps.length ∧ e = [(0, v), (1, .int .i64 lo), (2, .int .i64 hi), (7, .int .i64 i)] ∧ g = h) ?_ _ ps.length _ _ (by omega) ⟨0, by omega, by omega, rfl, rfl⟩
    rintro m e g again ⟨i, rfl, hi', rfl, rfl⟩ ih
    have hw1 : IntKind.i64.wrap ((i : Int) + 1) = ((i + 1 : Nat) : Int) := by rw [wrap_id (by omega) (by omega)]; rfl
    by_cases hlt : i < ps.length
    · obtain ⟨p, hp⟩ : ∃ p, ps[i]? = some p := ⟨_, List.getElem?_eq_getElem hlt⟩
      obtain ⟨b, o, c, cs, es, lv, an, rfl, hk, hg, hle, hR⟩ := s.at' hp
      simp only [Nat.mul_one, IntC] at hle hR
      have hpn := hno p (List.mem_of_getElem? hp)
      by_cases h1 : lo < p
      · have h2 : ¬ p < hi := fun h2 => hpn ⟨h1, h2⟩
        simp (disch := first | omega | (simp only [newRow_size, Array.size_setIfInBounds, Array.size_push]; done) | (simp only [newRow_size, Array.size_setIfInBounds, Array.size_push]; omega)) [l31_6, r31_2, hln, r31_3, hg, hR, h1, h2, eqT, eqF, neT, neF, ltT, ltF, leT, leF, nltT, nltF, nleT, nleF, nneT, nneF, List.getElem?_cons_zero, List.getElem?_cons_succ, r31_5, hw1]
        exact ih (ps.length - (i + 1)) _ _ (by omega) ⟨i + 1, rfl, by omega, rfl, rfl⟩
      · simp (disch := first | omega | (simp only [newRow_size, Array.size_setIfInBounds, Array.size_push]; done) | (simp only [newRow_size, Array.size_setIfInBounds, Array.size_push]; omega)) [l31_6, r31_2, hln, r31_3, hg, hR, h1, eqT, eqF, neT, neF, ltT, ltF, leT, leF, nltT, nltF, nleT, nleF, nneT, nneF, List.getElem?_cons_zero, List.getElem?_cons_succ, r31_5, hw1]
        exact ih (ps.length - (i + 1)) _ _ (by omega) ⟨i + 1, rfl, by omega, rfl, rfl⟩
    · simp (disch := first | omega | (simp only [newRow_size, Array.size_setIfInBounds, Array.size_push]; done) | (simp only [newRow_size, Array.size_setIfInBounds, Array.size_push]; omega)) [l31_6, r31_2, hln, eqT, eqF, neT, neF, ltT, ltF, leT, leF, nltT, nltF, nleT, nleF, nneT, nneF, List.getElem?_cons_zero, List.getElem?_cons_succ, r31_7]
      subst hQ
      exact Ans.of ⟨rfl, rfl⟩
  obtain ⟨u, h', e, rfl, rfl⟩ := a
  exact e

/-- No event lies between an item and what it comes behind. -/
def Fine (ps : List Int) (last : Int) (x : Itm) : Prop := x.stamp ≤ last ∧ (x.marker = false → ∀ p ∈ ps, p ≤ x.after ∨ x.stamp ≤ p)

theorem Fine.more {ps : List Int} {last last' : Int} {x : Itm} (f : Fine ps last x) (hl : last ≤ last') : Fine ps last' x := ⟨Int.le_trans f.1 hl, f.2⟩
theorem Fine.put {ps : List Int} {last stamp : Int} {x : Itm} (f : Fine ps last x) (hl : last < stamp) : Fine (ps ++ [stamp]) stamp x := by
  refine ⟨Int.le_of_lt (Int.lt_of_le_of_lt f.1 hl), fun hm p hp => ?_⟩
  rcases List.mem_append.1 hp with hp | hp
  · exact f.2 hm p hp
  · simp at hp; subst hp
    exact .inr (Int.le_of_lt (Int.lt_of_le_of_lt f.1 hl))

def BookC (ok : Nat → Prop) (h : H) (cs : List Value) (l : List Itm) : Prop := ∃ v, cs = [v] ∧ SlR ok 5 (ItmC ok) h v l

/-- Blocks that are not that list's. -/
def offU (N : Nat) (u : Value) : Nat → Prop := fun c => N ≤ c ∧ ∀ o n m, u ≠ .slice (some ⟨c, o, none⟩) n m

theorem bld_move {α : Type} {ok ok' : Nat → Prop} {w : Nat} {R R' : H → List Value → α → Prop} {h h' : H} {v : Value} {xs : List α} (s : Bld ok w R h v xs) (h1 : ∀ b, b < h.size → ok b → ok' b) (h2 : ∀ b, b < h.size → ok b → hget h' b = hget h b) (hR : ∀ cs, ∀ x ∈ xs, R h cs x → R' h' cs x) : Bld ok' w R' h' v xs := by
  rcases s with e | ⟨b, cs, an, e, hk, hb, hl, hi⟩
  · exact .inl e
  · have hbs := lt_of_get hb
    exact .inr ⟨b, cs, an, e, h1 b hbs hk, (h2 b hbs hk).trans hb, hl, fun i x hx => hR _ x (List.mem_of_getElem? hx) (hi i x hx)⟩

structure Rdr (h : H) (N b r i : Nat) (g : H) (u w : Value) (ps : List Int) (bk : List (List Itm)) (q : Qm) (f : Nat) : Prop where
  sq : QAt (since N) g b 0 (some r) f q
  gq : q.Good
  sh : ShortI q.items
  kg : Kept h g []
  yg : N ≤ g.size
  us : Bld (since N) 1 IntC g u ps
  bs : Bld (offU N u) 1 (BookC (since N)) g w bk
  hp : ∀ p ∈ ps, p ≤ q.last
  hb : ∀ l ∈ bk, ∀ x ∈ l, Fine ps q.last x
  hi : ∀ x ∈ q.items, Fine ps q.last x
  lp : ps.length ≤ i
  lb : ∀ l ∈ bk, l.length ≤ 32
  bh : h.size ≤ b
  rh : h.size ≤ r
  bl : b < N
  rl : r < N
  hN : h.size ≤ N

theorem BookC.imp {ok ok' : Nat → Prop} {h h' : H} {cs : List Value} {l : List Itm} (s : BookC ok h cs l) (h1 : ∀ b, b < h.size → ok b → ok' b) (h3 : ∀ b cs, ok b → cel h b = some cs → cel h' b = some cs) : BookC ok' h' cs l := by
  obtain ⟨v, e, s⟩ := s
  exact ⟨v, e, SlItm.imp s h1 h3⟩

/-- What keeps all but the queue's own two blocks. -/
theorem Rdr.move {h : H} {N b r i : Nat} {g g' : H} {u w : Value} {ps : List Int} {bk : List (List Itm)} {q : Qm} {f f' : Nat} (o : Rdr h N b r i g u w ps bk q f) (k : Kept g g' [b, r]) (s : QAt (since N) g' b 0 (some r) f' q) : Rdr h N b r i g' u w ps bk q f' := by
  have h1 := o.bl
  have h2 := o.rl
  have h3 := o.bh
  have h4 := o.rh
  have nb : ∀ c ∈ [b, r], ¬ since N c := by simp; omega
  have nbw : ∀ c ∈ [b, r], ¬ offU N u c := fun c hc q => nb c hc q.1
  exact ⟨s, o.gq, o.sh, Kept.low o.kg k (by simp; omega), Nat.le_trans o.yg k.1, o.us.kept k nb (fun _ _ _ e => e), o.bs.kept k nbw (fun cs l _ e => e.imp (fun _ _ q => q) (keep_of k.c nb)), o.hp, o.hb, o.hi, o.lp, o.lb, h3, h4, h1, h2, o.hN⟩

set_option maxHeartbeats 2000000 in
theorem swa_spec {F : Nat} (hF : 17592186044440 ≤ F) {h : H} {N b r i : Nat} {g : H} {u w : Value} {ps : List Int} {bk : List (List Itm)} {q : Qm} {f : Nat} (o : Rdr h N b r i g u w ps bk q f) (hi60 : i < 60)
    {v t : Value} {has : Int} {n : Nat} {x : Stp} {vt vp : Value} (hn : hget g n = some (.cells [.int .i64 x.kind, .int .i64 x.on, .int .i64 x.stamp, vt, vp] 0 true [])) (hnN : N ≤ n)
    (st : SlR (fun b => b < h.size) 5 (TgdC (fun b => b < h.size)) g vt x.chgs) (sp : SlR (fun b => b < h.size) 5 (PrtC (fun b => b < h.size)) g vp x.prts) (hs : x.Short)
    {kn kr : K} {ke : Nat → K} {Q : Value → H → Prop}
    (hk : ∀ g2 u2 ps2 q2 f2 (e : Env), Rdr h N b r (i + 1) g2 u2 w ps2 bk q2 f2 → Ans (kn ((2, v) :: (3, t) :: (9, .pointer (some ⟨b, 0, none⟩)) :: (11, u2) :: (12, w) :: (13, .int .i64 has) :: (14, .int .i64 i) :: e) g2 []) Q) :
    Ans (evC F (cf F) swa kn ke kr [(2, v), (3, t), (9, .pointer (some ⟨b, 0, none⟩)), (11, u), (12, w), (13, .int .i64 has), (14, .int .i64 i), (15, .pointer (some ⟨n, 0, none⟩))] g []) Q := by
  have hns := lt_of_get hn
  have hbh := o.bh
  have hrh := o.rh
  have hbl := o.bl
  have hrl := o.rl
  have hhN := o.hN
  have hyg := o.yg
  have hgl := o.gq.len
  have hgr := o.gq.room
  have hlp := o.lp
  have hnl : n ∉ b :: (some r).toList := by simp; omega
  have nb : ∀ c ∈ [b, r], ¬ since N c := by simp; omega
  have nbw : ∀ c ∈ [b, r], ¬ offU N u c := fun c hc q => nb c hc q.1
  have next : ∀ {g u ps q f}, Rdr h N b r i g u w ps bk q f → Rdr h N b r (i + 1) g u w ps bk q f := fun o => ⟨o.sq, o.gq, o.sh, o.kg, o.yg, o.us, o.bs, o.hp, o.hb, o.hi, by have := o.lp; omega, o.lb, o.bh, o.rh, o.bl, o.rl, o.hN⟩
  by_cases h1 : x.kind = 1
  · simp (disch := first | omega | (simp only [newRow_size, Array.size_setIfInBounds, Array.size_push]; done) | (simp only [newRow_size, Array.size_setIfInBounds, Array.size_push]; omega)) [swa, r12_10, r12_11, hn, h1, eqT, eqF, neT, neF, ltT, ltF, leT, leF, nltT, nltF, nleT, nleF, nneT, nneF, List.getElem?_cons_zero, List.getElem?_cons_succ]
    refine Ans.next (Put_spec (F := F) (by omega) o.sq o.gq st (by simp; omega) hs.1 (fun c hc => by show N ≤ c; omega) x.stamp) ?_
    rintro y g2 ⟨rfl, s2, k2⟩
    have y2 := k2.1
    have hn2 := (k2.get hns hnl).trans hn
    have g2' := o.gq.put x.stamp x.chgs
    rcases putM_cases q x.stamp x.chgs with e | ⟨e, hlast, _⟩
    · rw [e] at s2
      have o2 := o.move k2 s2
      by_cases hc : (putM q x.stamp x.chgs).1 = 0
      · exfalso
        unfold putM at hc e
        split at hc
        · rename_i h0; exact h0 hc
        · split at hc
          · simp at hc
          · split at hc
            · simp at hc
            · rename_i a1 a2 a3
              rw [if_neg a1, if_neg a2, if_neg a3] at e
              have := congrArg (fun z => z.items.length) e
              simp at this
      · simp (disch := first | omega | (simp only [newRow_size, Array.size_setIfInBounds, Array.size_push]; done) | (simp only [newRow_size, Array.size_setIfInBounds, Array.size_push]; omega)) [hc, num_eq (F := F) (by omega), eqT, eqF, neT, neF, ltT, ltF, leT, leF, nltT, nltF, nleT, nleF, nneT, nneF, List.getElem?_cons_zero, List.getElem?_cons_succ]
        exact hk _ _ _ _ _ _ (next o2)
    · rw [e] at s2 g2'
      have us2 := o.us.kept k2 nb (fun _ _ _ e => e)
      have bs2 := o.bs.kept k2 nbw (fun cs l _ e => e.imp (fun _ _ q => q) (keep_of k2.c nb))
      have ks2 := Kept.low o.kg k2 (by simp; omega)
      simp (disch := first | omega | (simp only [newRow_size, Array.size_setIfInBounds, Array.size_push]; done) | (simp only [newRow_size, Array.size_setIfInBounds, Array.size_push]; omega)) [e, num_eq (F := F) (by omega), eqT, eqF, neT, neF, ltT, ltF, leT, leF, nltT, nltF, nleT, nleF, nneT, nneF, List.getElem?_cons_zero, List.getElem?_cons_succ, r12_12, hn2, srcOf]
      have kR := rowKept g2 [.int .i64 x.stamp] 1 []
      have usR := us2.kept kR (by simp) (fun _ _ _ e => e)
      have bsR := bs2.kept kR (by simp) (fun cs l _ e => e.imp (fun _ _ q => q) (keep_of kR.c (by simp)))
      have sR := s2.frame kR
      refine Ans.next (usR.app (x := x.stamp) (bytes := 8) rfl (by omega) (by show N ≤ _; exact (by first | omega | (simp only [newRow_size, Array.size_setIfInBounds, Array.size_push]; done) | (simp only [newRow_size, Array.size_setIfInBounds, Array.size_push]; omega))) (fun _ _ _ _ _ e => e) (fun _ _ => rfl)) ?_
      rintro u3 g3 ⟨b3, k3, y3, e3, d3⟩
      have yR : (Ev.newRow g2 [.int .i64 x.stamp] 1 []).size = g2.size + 1 := by simp
      have y3' := k3.1
      simp (disch := first | omega | (simp only [newRow_size, Array.size_setIfInBounds, Array.size_push]; done) | (simp only [newRow_size, Array.size_setIfInBounds, Array.size_push]; omega)) []
      refine hk g3 u3 (ps ++ [x.stamp]) _ _ _ ⟨sR.keptC (e3 b (by omega) (usR.ne (by simp; omega))) (by rintro c e; cases e; exact e3 r (by omega) (usR.ne (by simp; omega))) k3, g2', ?_, ?_, by omega, b3, ?_, ?_, fun l hl y hy => (o.hb l hl y hy).put hlast, ?_, by simp; omega, o.lb, hbh, hrh, hbl, hrl, hhN⟩
      · have gl := g2'.len
        have gr := g2'.room
        refine ⟨by omega, fun y hy => ?_⟩
        rcases List.mem_append.1 hy with hy | hy
        · exact o.sh.2 y hy
        · simp at hy; subst hy
          exact ⟨hs.1, by simp [ShortP]⟩
      · refine ⟨by have := ks2.1; omega, fun c hc _ => (e3 c (by have := ks2.1; omega) (usR.ne (by simp; omega))).trans ?_⟩
        have := ks2.1
        have e : hget (Ev.newRow g2 [.int .i64 x.stamp] 1 []) c = hget g2 c := by simp (disch := first | omega | (simp only [newRow_size, Array.size_setIfInBounds, Array.size_push]; done) | (simp only [newRow_size, Array.size_setIfInBounds, Array.size_push]; omega)) []
        exact e.trans (ks2.get hc (by simp))
      · refine bld_move bsR (fun c hc q => ⟨q.1, ?_⟩) (fun c hc q => e3 c hc q.2) (fun cs l _ e => e.imp (fun _ _ q => q) (keep_of k3 (by simp)))
        rcases d3 with rfl | ⟨n', c', rfl⟩
        · exact q.2
        · intro o n m e
          simp at e
          omega
      · intro p hp
        rcases List.mem_append.1 hp with hp | hp
        · exact Int.le_of_lt (Int.lt_of_le_of_lt (o.hp p hp) hlast)
        · simp at hp; subst hp; exact Int.le_refl _
      · intro y hy
        rcases List.mem_append.1 hy with hy | hy
        · exact (o.hi y hy).put hlast
        · simp at hy; subst hy
          refine ⟨Int.le_refl _, fun _ p hp => ?_⟩
          rcases List.mem_append.1 hp with hp | hp
          · exact .inl (o.hp p hp)
          · simp at hp; subst hp; exact .inr (Int.le_refl _)
  · by_cases h2 : x.kind = 2
    · simp (disch := first | omega | (simp only [newRow_size, Array.size_setIfInBounds, Array.size_push]; done) | (simp only [newRow_size, Array.size_setIfInBounds, Array.size_push]; omega)) [swa, r12_10, r12_13, r12_14, hn, h2, eqT, eqF, neT, neF, ltT, ltF, leT, leF, nltT, nltF, nleT, nleF, nneT, nneF, List.getElem?_cons_zero, List.getElem?_cons_succ]
      refine Ans.next (Collapse_spec (F := F) (by omega) o.sq o.gq sp (by simp; omega) (by rintro c e; cases e; simp; omega) hs.2 (fun c hc => by show N ≤ c; omega) x.stamp) ?_
      rintro y g2 ⟨f2, rfl, s2, k2⟩
      have g2' := o.gq.coll x.stamp x.prts
      simp (disch := first | omega | (simp only [newRow_size, Array.size_setIfInBounds, Array.size_push]; done) | (simp only [newRow_size, Array.size_setIfInBounds, Array.size_push]; omega)) []
      have us2 := o.us.kept k2 nb (fun _ _ _ e => e)
      have bs2 := o.bs.kept k2 nbw (fun cs l _ e => e.imp (fun _ _ q => q) (keep_of k2.c nb))
      have ks2 := Kept.low o.kg k2 (by simp; omega)
      have y2 := k2.1
      rcases collM_cases q x.stamp x.prts with e | ⟨e, hlast, _⟩
      · rw [e] at s2
        exact hk _ _ _ _ _ _ (next (o.move k2 s2))
      · rw [e] at s2 g2'
        refine hk _ _ _ _ _ _ ⟨s2, g2', ⟨by simp, ?_⟩, ks2, by omega, us2, bs2, fun p hp => Int.le_of_lt (Int.lt_of_le_of_lt (o.hp p hp) hlast), fun l hl y hy => (o.hb l hl y hy).more (Int.le_of_lt hlast), ?_, by omega, o.lb, hbh, hrh, hbl, hrl, hhN⟩
        · intro y hy
          simp at hy; subst hy
          exact ⟨by simp [ShortT], hs.2⟩
        · intro y hy
          simp at hy; subst hy
          exact ⟨Int.le_refl _, by simp⟩
    · simp (disch := first | omega | (simp only [newRow_size, Array.size_setIfInBounds, Array.size_push]; done) | (simp only [newRow_size, Array.size_setIfInBounds, Array.size_push]; omega)) [swa, r12_10, r12_13, hn, h1, h2, eqT, eqF, neT, neF, ltT, ltF, leT, leF, nltT, nltF, nleT, nleF, nneT, nneF, List.getElem?_cons_zero, List.getElem?_cons_succ]
      exact hk _ _ _ _ _ _ (next o)

end Go.Proofs.Ytkkagpchcefidaa

/- QueueReader. -/
set_option linter.unusedSimpArgs false
set_option linter.unusedVariables false
namespace Go.Proofs.Ytkkagpchcefidaa
open Go.Ev

structure Tk where
  at' : Int
  which : Int
  ack : Bool
def TkC (h : H) (cs : List Value) (t : Tk) : Prop := cs = [.int .i64 t.at', .int .i64 t.which, .bool t.ack]

theorem Rdr.rest {h : H} {N b r i : Nat} {g g' : H} {u w : Value} {ps : List Int} {bk : List (List Itm)} {q : Qm} {f : Nat} (o : Rdr h N b r i g u w ps bk q f) (k : Kept g g' []) : Rdr h N b r i g' u w ps bk q f :=
  o.move (k.weak (by simp)) (o.sq.frame k)

set_option maxHeartbeats 2000000 in
theorem swb_spec {F : Nat} (hF : 17592186044440 ≤ F) {h : H} {N b r i : Nat} {g : H} {u w : Value} {ps : List Int} {bk : List (List Itm)} {q : Qm} {f : Nat} (o : Rdr h N b r i g u w ps bk q f) (hi60 : i ≤ 60)
    {v t : Value} {has : Int} {n : Nat} {a wh : Int} {ack : Bool} {j : Int} {vl : Value} {l : List Itm} (hn : hget g n = some (.cells [.int .i64 a, .int .i64 wh, .bool ack] 0 true []))
    (hl : l ∈ bk) (sl : SlR (since N) 5 (ItmC (since N)) g vl l)
    {kn kr : K} {ke : Nat → K} {Q : Value → H → Prop}
    (hk : ∀ g2 (has2 : Int) (e : Env), Kept g g2 [] → Ans (kn ((2, v) :: (3, t) :: (9, .pointer (some ⟨b, 0, none⟩)) :: (11, u) :: (12, w) :: (13, .int .i64 has2) :: (14, .int .i64 j) :: (16, .pointer (some ⟨n, 0, none⟩)) :: e) g2 []) Q) :
    Ans (evC F (cf F) swb kn ke kr [(2, v), (3, t), (9, .pointer (some ⟨b, 0, none⟩)), (11, u), (12, w), (13, .int .i64 has), (14, .int .i64 j), (16, .pointer (some ⟨n, 0, none⟩)), (17, vl)] g []) Q := by
  have hns := lt_of_get hn
  have hll := sl.len
  have hlb := o.lb l hl
  have hlp := o.lp
  by_cases c1 : 0 ≤ wh
  · by_cases c2 : wh < l.length
    · obtain ⟨k, rfl⟩ := Int.eq_ofNat_of_zero_le c1
      obtain ⟨x, hx⟩ : ∃ x, l[k]? = some x := ⟨_, List.getElem?_eq_getElem (by omega)⟩
      obtain ⟨b', o', c', cs, es, lv, an, rfl, hk', hg', hle', hI⟩ := sl.at' hx
      obtain ⟨vt, vp, p5, p0, p1, p2, p3, p4, st, sp⟩ := id_at hI hle'
      have hgs' := lt_of_get hg'
      by_cases c3 : x.after ≤ has
      · by_cases c4 : has < x.stamp
        · have hto := st.one
          have hpo := sp.one
          simp only [oneCell] at hto hpo
          have kR := rowKept g [.int .i64 x.stamp, .int .i64 x.after, .bool x.marker, vt, vp] 0 []
          have oR := o.rest kR
          have hno : ∀ p ∈ ps, x.marker = false → ¬ (has < p ∧ p < x.stamp) := by
            intro p hp hm
            have := (o.hb l hl x (List.mem_of_getElem? hx)).2 hm p hp
            omega
          simp (disch := first | omega | (simp only [newRow_size, Array.size_setIfInBounds, Array.size_push]; done) | (simp only [newRow_size, Array.size_setIfInBounds, Array.size_push]; omega)) [swb, r12_19, hn, hll, c1, c2, hg', p1, p0, c3, c4, eqT, eqF, neT, neF, ltT, ltF, leT, leF, nltT, nltF, nleT, nleF, nneT, nneF, List.getElem?_cons_zero, List.getElem?_cons_succ, r12_20, p5, hto, hpo, r12_21]
          cases hm : x.marker with
          | true =>
            rw [hm] at kR
            simp (disch := first | omega | (simp only [newRow_size, Array.size_setIfInBounds, Array.size_push]; done) | (simp only [newRow_size, Array.size_setIfInBounds, Array.size_push]; omega)) [eqT, eqF, neT, neF, ltT, ltF, leT, leF, nltT, nltF, nleT, nleF, nneT, nneF, List.getElem?_cons_zero, List.getElem?_cons_succ, r12_23]
            exact hk _ _ _ kR
          | false =>
            rw [hm] at kR oR
            have hmi := miss_spec (F := F) (by omega) oR.us.sl (by omega) has x.stamp (fun p hp => hno p hp hm)
            simp (disch := first | omega | (simp only [newRow_size, Array.size_setIfInBounds, Array.size_push]; done) | (simp only [newRow_size, Array.size_setIfInBounds, Array.size_push]; omega)) [eqT, eqF, neT, neF, ltT, ltF, leT, leF, nltT, nltF, nleT, nleF, nneT, nneF, List.getElem?_cons_zero, List.getElem?_cons_succ, hmi, r12_23]
            exact hk _ _ _ kR
        · simp (disch := first | omega | (simp only [newRow_size, Array.size_setIfInBounds, Array.size_push]; done) | (simp only [newRow_size, Array.size_setIfInBounds, Array.size_push]; omega)) [swb, r12_19, hn, hll, c1, c2, hg', p1, p0, c3, c4, eqT, eqF, neT, neF, ltT, ltF, leT, leF, nltT, nltF, nleT, nleF, nneT, nneF, List.getElem?_cons_zero, List.getElem?_cons_succ]
          exact hk _ _ _ (Kept.refl _ _)
      · simp (disch := first | omega | (simp only [newRow_size, Array.size_setIfInBounds, Array.size_push]; done) | (simp only [newRow_size, Array.size_setIfInBounds, Array.size_push]; omega)) [swb, r12_19, hn, hll, c1, c2, hg', p1, p0, c3, eqT, eqF, neT, neF, ltT, ltF, leT, leF, nltT, nltF, nleT, nleF, nneT, nneF, List.getElem?_cons_zero, List.getElem?_cons_succ]
        exact hk _ _ _ (Kept.refl _ _)
    · simp (disch := first | omega | (simp only [newRow_size, Array.size_setIfInBounds, Array.size_push]; done) | (simp only [newRow_size, Array.size_setIfInBounds, Array.size_push]; omega)) [swb, r12_19, hn, hll, c1, c2, eqT, eqF, neT, neF, ltT, ltF, leT, leF, nltT, nltF, nleT, nleF, nneT, nneF, List.getElem?_cons_zero, List.getElem?_cons_succ]
      exact hk _ _ _ (Kept.refl _ _)
  · simp (disch := first | omega | (simp only [newRow_size, Array.size_setIfInBounds, Array.size_push]; done) | (simp only [newRow_size, Array.size_setIfInBounds, Array.size_push]; omega)) [swb, r12_19, hn, hll, c1, eqT, eqF, neT, neF, ltT, ltF, leT, leF, nltT, nltF, nleT, nleF, nneT, nneF, List.getElem?_cons_zero, List.getElem?_cons_succ]
    exact hk _ _ _ (Kept.refl _ _)

theorem Rdr.took {h : H} {N b r i : Nat} {g g' : H} {u w : Value} {ps : List Int} {bk : List (List Itm)} {q : Qm} {f f' : Nat} (o : Rdr h N b r i g u w ps bk q f) (stamp : Int) (k : Kept g g' [b, r]) (s : QAt (since N) g' b 0 (some r) f' (tookM q stamp).2) : Rdr h N b r i g' u w ps bk (tookM q stamp).2 f' := by
  have h1 := o.bl
  have h2 := o.rl
  have h3 := o.bh
  have h4 := o.rh
  have nb : ∀ c ∈ [b, r], ¬ since N c := by simp; omega
  have nbw : ∀ c ∈ [b, r], ¬ offU N u c := fun c hc q => nb c hc q.1
  have gt := o.gq.took stamp
  have hsub := (dropWhile_sub (fun x : Itm => decide (x.stamp ≤ stamp)) q.items).subset
  exact ⟨s, gt, ⟨by have := gt.len; have := gt.room; omega, fun y hy => o.sh.2 y (hsub hy)⟩, Kept.low o.kg k (by simp; omega), Nat.le_trans o.yg k.1, o.us.kept k nb (fun _ _ _ e => e), o.bs.kept k nbw (fun cs l _ e => e.imp (fun _ _ q => q) (keep_of k.c nb)), o.hp, o.hb, fun y hy => o.hi y (hsub hy), o.lp, o.lb, h3, h4, h1, h2, o.hN⟩

theorem bld_at {α : Type} {ok : Nat → Prop} {w : Nat} {R : H → List Value → α → Prop} {h : H} {v : Value} {xs : List α} (s : Bld ok w R h v xs) : Bld (fun c => ok c ∧ ∃ o n m, v = .slice (some ⟨c, o, none⟩) n m) w R h v xs := by
  rcases s with e | ⟨b, cs, an, e, hk, hb, hl, hi⟩
  · exact .inl e
  · exact .inr ⟨b, cs, an, e, ⟨hk, _, _, _, e⟩, hb, hl, hi⟩

/-- A book more. -/
theorem Rdr.book {h : H} {N b r i : Nat} {g : H} {u w : Value} {ps : List Int} {bk : List (List Itm)} {q : Qm} {f : Nat} (o : Rdr h N b r i g u w ps bk q f) (hlen : bk.length < 100) {vl : Value} (sl : SlR (since N) 5 (ItmC (since N)) g vl q.items) :
    Ans (appendTo g 1 24 w 1 [vl]) fun w2 g2 => Rdr h N b r i g2 u w2 ps (bk ++ [q.items]) q f := by
  have h1 := o.bl
  have h2 := o.rl
  have h3 := o.bh
  have h4 := o.rh
  have hyg := o.yg
  have hnew : offU N u g.size := by
    refine ⟨hyg, fun a n m e => ?_⟩
    rcases o.us with ⟨e', _⟩ | ⟨c, cs, an, e', _, hb, _⟩
    · rw [e'] at e; cases e
    · rw [e'] at e
      simp at e
      have := lt_of_get hb
      omega
  refine (o.bs.app (x := q.items) (bytes := 24) rfl (by omega) hnew (fun h' k cs l _ e => e.imp (fun _ _ q => q) (keep_of k (by simp))) (fun h' k => ⟨vl, rfl, SlItm.imp sl (fun _ _ q => q) (keep_of k (by simp))⟩)).mono ?_
  rintro w2 g2 ⟨b2, k2, y2, e2, d2⟩
  have nbw : ∀ c, ¬ offU N u c → ∀ o n m, w ≠ .slice (some ⟨c, o, none⟩) n m := fun c hc => o.bs.ne hc
  refine ⟨o.sq.keptC (e2 b (by omega) (nbw b (fun q => by have := q.1; omega))) (by rintro c e; cases e; exact e2 r (by omega) (nbw r (fun q => by have := q.1; omega))) k2, o.gq, o.sh, ⟨by have := o.kg.1; have := k2.1; omega, fun c hc _ => (e2 c (by have := o.kg.1; omega) (nbw c (fun q => by have := q.1; omega))).trans (o.kg.get hc (by simp))⟩, by have := k2.1; omega, ?_, b2, o.hp, ?_, o.hi, o.lp, ?_, h3, h4, h1, h2, o.hN⟩
  · refine bld_move (bld_at o.us) (fun c _ q => q.1) (fun c hc q => e2 c hc (nbw c ?_)) (fun _ _ _ e => e)
    rintro ⟨_, hne⟩
    obtain ⟨_, a, n, m, e⟩ := q
    exact hne a n m e
  · intro l hl
    rcases List.mem_append.1 hl with hl | hl
    · exact o.hb l hl
    · simp at hl; subst hl; exact o.hi
  · intro l hl
    rcases List.mem_append.1 hl with hl | hl
    · exact o.lb l hl
    · simp at hl; subst hl
      have := o.gq.len
      have := o.gq.room
      omega

end Go.Proofs.Ytkkagpchcefidaa

/- QueueReader: the walk. -/
set_option linter.unusedSimpArgs false
set_option linter.unusedVariables false
namespace Go.Proofs.Ytkkagpchcefidaa
open Go.Ev

theorem tmod_small {a : Int} {n : Nat} (hn : 0 < n) (h60 : n ≤ 60) : ∃ j : Nat, j < n ∧ IntKind.i64.wrap (a.tmod n + n) = a.tmod n + n ∧ (a.tmod n + n).tmod n = (j : Int) := by
  have h1 : a.tmod n < n := Int.tmod_lt_of_pos a (by omega)
  have h2 : -(n : Int) < a.tmod n := by
    have := Int.tmod_lt_of_pos (-a) (show (0 : Int) < n by omega)
    rw [Int.neg_tmod] at this
    omega
  have h3 : (a.tmod n + n).tmod n = (a.tmod n + n) % n := Int.tmod_eq_emod_of_nonneg (by omega)
  have h4 : 0 ≤ (a.tmod n + n) % (n : Int) := Int.emod_nonneg _ (by omega)
  have h5 : (a.tmod n + n) % (n : Int) < n := Int.emod_lt_of_pos _ (by omega)
  refine ⟨((a.tmod n + n) % (n : Int)).toNat, by omega, wrap_id (by omega) (by omega), ?_⟩
  rw [h3]; omega

set_option maxHeartbeats 4000000 in
theorem queueReader_spec {F : Nat} (hF : 17592186044450 ≤ F) {h : H} (room begin' : Int) {v t : Value} {script : List Stp} {takes : List Tk} (s : SlR (fun b => b < h.size) 5 (StpC (fun b => b < h.size)) h v script) (hs : ∀ x ∈ script, x.Short)
    (tk : SlR (fun b => b < h.size) 3 TkC h t takes) :
    Ans (cf F 12 [.int .i64 room, .int .i64 begin', v, t] h) fun u h' => u = .bool true := by
  generalize hQ : (fun (u : Value) (h' : H) => u = Value.bool true) = Q
  have hq : ∀ h', Q (.bool true) h' := by subst hQ; exact fun _ => rfl
  obtain ⟨F, rfl⟩ : ∃ G, F = G + 1 := ⟨F - 1, by omega⟩
  rw [cf_step (a := a12) rfl rfl (by simp [a12])]
  have hl := s.len
  have htl := tk.len
  by_cases hroom : room < 1 ∨ 32 < room
  · simp (disch := first | omega | (simp only [newRow_size, Array.size_setIfInBounds, Array.size_push]; done) | (simp only [newRow_size, Array.size_setIfInBounds, Array.size_push]; omega)) [a12, r12_0, r12_1, New_bad1 (F := F) (by omega) h room begin' hroom, r12_2, num_eq (F := F) (by omega), r12_3, eqT, eqF, neT, neF, ltT, ltF, leT, leF, nltT, nltF, nleT, nleF, nneT, nneF, List.getElem?_cons_zero, List.getElem?_cons_succ]
    refine Ans.next (known_spec (F := F) (by omega) h) ?_
    rintro u h2 ⟨rfl, k2⟩
    simp (disch := first | omega | (simp only [newRow_size, Array.size_setIfInBounds, Array.size_push]; done) | (simp only [newRow_size, Array.size_setIfInBounds, Array.size_push]; omega)) []
    exact Ans.of (hq _)
  by_cases hbeg : begin' < 0 ∨ 2147483647 < begin'
  · simp (disch := first | omega | (simp only [newRow_size, Array.size_setIfInBounds, Array.size_push]; done) | (simp only [newRow_size, Array.size_setIfInBounds, Array.size_push]; omega)) [a12, r12_0, r12_1, New_bad2 (F := F) (by omega) h room begin' (by omega) (by omega) hbeg, r12_2, num_eq (F := F) (by omega), r12_3, eqT, eqF, neT, neF, ltT, ltF, leT, leF, nltT, nltF, nleT, nleF, nneT, nneF, List.getElem?_cons_zero, List.getElem?_cons_succ]
    refine Ans.next (known_spec (F := F) (by omega) h) ?_
    rintro u h2 ⟨rfl, k2⟩
    simp (disch := first | omega | (simp only [newRow_size, Array.size_setIfInBounds, Array.size_push]; done) | (simp only [newRow_size, Array.size_setIfInBounds, Array.size_push]; omega)) []
    exact Ans.of (hq _)
  simp (disch := first | omega | (simp only [newRow_size, Array.size_setIfInBounds, Array.size_push]; done) | (simp only [newRow_size, Array.size_setIfInBounds, Array.size_push]; omega)) [a12, r12_0, r12_1]
  refine Ans.next (New_spec (F := F) (by omega) h room begin' (by omega) (by omega) (by omega) (by omega)) ?_
  rintro v1 h1 ⟨b, r, rfl, s1, zb, zr, hb, hr, hbr, k1⟩
  have sQ := s1 (since h1.size) (by simp; omega) (by simp; omega)
  have y1 := k1.1
  simp (disch := first | omega | (simp only [newRow_size, Array.size_setIfInBounds, Array.size_push]; done) | (simp only [newRow_size, Array.size_setIfInBounds, Array.size_push]; omega)) [r12_2, num_eq (F := F) (by omega), eqT, eqF, neT, neF, ltT, ltF, leT, leF, nltT, nltF, nleT, nleF, nneT, nneF, List.getElem?_cons_zero, List.getElem?_cons_succ, r12_4, r12_5, r12_6, r12_7]
  refine loop_rule (fun m e g => ∃ (i f : Nat) (q : Qm) (u w : Value) (ps : List Int) (bk : List (List Itm)) (has : Int), m = 60 - i ∧ i ≤ 60 ∧ e = [(2, v), (3, t), (9, .pointer (some ⟨b, 0, none⟩)), (11, u), (12, w), (13, .int .i64 has), (14, .int .i64 i)] ∧ Rdr h h1.size b r i g u w ps bk q f ∧ bk.length = i) ?_ _ 60 _ _ (by omega) ⟨0, 0, Qm.new room begin', _, _, [], [], _, by omega, by omega, rfl, ⟨sQ, Qm.Good.new (by omega) (by omega) (by omega) (by omega), by simp [Qm.new, ShortI], k1, Nat.le_refl _, Bld.nil _ _ _ _, Bld.nil _ _ _ _, by simp, by simp, by simp [Qm.new], by simp, by simp, zb, zr, hb, hr, y1⟩, rfl⟩
  rintro m e g again ⟨i, f, q, u, w, ps, bk, has, rfl, hi, rfl, o, hbk⟩ ih
  have hw1 : IntKind.i64.wrap ((i : Int) + 1) = ((i + 1 : Nat) : Int) := by rw [wrap_id (by omega) (by omega)]; rfl
  by_cases hlt : i < script.length ∧ i < 60
  · obtain ⟨x, hx⟩ : ∃ x, script[i]? = some x := ⟨_, List.getElem?_eq_getElem hlt.1⟩
    have sg := SlR.imp s (ok' := fun b => b < h.size) (R' := StpC (fun b => b < h.size)) (h' := g) (fun _ _ q => q) (fun cs x _ q => StpC.imp q (fun _ _ q => q) (keep_of o.kg.c (by simp))) (keep_of o.kg.c (by simp))
    obtain ⟨b', o', c, cs, es, lv, an, rfl, hk, hg, hle, vt, vp, hx5, st, sp⟩ := sg.at' hx
    have hto := st.one
    have hpo := sp.one
    simp only [oneCell] at hto hpo
    have hgs := lt_of_get hg
    simp (disch := first | omega | (simp only [newRow_size, Array.size_setIfInBounds, Array.size_push]; done) | (simp only [newRow_size, Array.size_setIfInBounds, Array.size_push]; omega)) [l12_split, r12_8, r12_9, hg, hl, hx5, hto, hpo, eqT, eqF, neT, neF, ltT, ltF, leT, leF, nltT, nltF, nleT, nleF, nneT, nneF, List.getElem?_cons_zero, List.getElem?_cons_succ]
    have kR := rowKept g [.int .i64 x.kind, .int .i64 x.on, .int .i64 x.stamp, vt, vp] 0 []
    refine swa_spec (F := F) (by omega) (o.rest kR) (by omega) (x := x) (vt := vt) (vp := vp) (n := g.size) (by simp (disch := first | omega | (simp only [newRow_size, Array.size_setIfInBounds, Array.size_push]; done) | (simp only [newRow_size, Array.size_setIfInBounds, Array.size_push]; omega)) []) o.yg (SlTgd.imp st (ok' := fun b => b < h.size) (fun _ _ q => q) (keep_of kR.c (by simp))) (SlPrt.imp sp (ok' := fun b => b < h.size) (fun _ _ q => q) (keep_of kR.c (by simp))) (hs x (List.mem_of_getElem? hx)) ?_
    intro g2 u2 ps2 q2 f2 e2 o2
    simp (disch := first | omega | (simp only [newRow_size, Array.size_setIfInBounds, Array.size_push]; done) | (simp only [newRow_size, Array.size_setIfInBounds, Array.size_push]; omega)) [r12_15]
    refine Ans.next (Next_spec (F := F) (by omega) o2.sq o2.gq o2.sh 99) ?_
    rintro vl g3 ⟨b3, s3, k3⟩
    rw [next99 o2.gq] at b3
    have o3 := o2.move (k3.weak (by simp)) s3
    have hvo := b3.sl.one
    have hvc := b3.sl.vc
    simp only [oneCell] at hvo
    simp only [vcells] at hvc
    simp (disch := first | omega | (simp only [newRow_size, Array.size_setIfInBounds, Array.size_push]; done) | (simp only [newRow_size, Array.size_setIfInBounds, Array.size_push]; omega)) [hvo, hvc, srcOf, eqT, eqF, neT, neF, ltT, ltF, leT, leF, nltT, nltF, nleT, nleF, nneT, nneF, List.getElem?_cons_zero, List.getElem?_cons_succ]
    have kR3 := rowKept g3 [vl] 1 []
    have sl3 := SlItm.imp b3.sl (ok' := since h1.size) (fun c _ hc => by have := o2.yg; have hc' : g2.size ≤ c := hc; show h1.size ≤ c; omega) (keep_of kR3.c (by simp))
    refine Ans.next ((o3.rest kR3).book (by omega) sl3) ?_
    intro w4 g4 o4
    have hb4 : (bk ++ [q2.items]).length = i + 1 := by simp [hbk]
    have hbl := o4.bs.sl.len
    obtain ⟨n, hn⟩ : ∃ n, n = i + 1 := ⟨_, rfl⟩
    rw [hb4, ← hn] at hbl
    generalize bk ++ [q2.items] = bk2 at o4 hb4
    simp (disch := first | omega | (simp only [newRow_size, Array.size_setIfInBounds, Array.size_push]; done) | (simp only [newRow_size, Array.size_setIfInBounds, Array.size_push]; omega)) [r12_16, htl]
    by_cases htk : i < takes.length
    · obtain ⟨d, hd⟩ : ∃ d, takes[i]? = some d := ⟨_, List.getElem?_eq_getElem htk⟩
      have tg := tk.imp (ok' := fun b => b < h.size) (R' := TkC) (h' := g4) (fun _ _ q => q) (fun _ _ _ q => q) (keep_of o4.kg.c (by simp))
      obtain ⟨b5, o5, c5, cs5, es5, lv5, an5, rfl, hk5, hg5, hle5, hd5⟩ := tg.at' hd
      simp only [TkC] at hd5
      have hgs5 := lt_of_get hg5
      obtain ⟨j, hj, hjw, hjm⟩ := tmod_small (a := d.at') (n := n) (by omega) (by omega)
      obtain ⟨lj, hlj⟩ : ∃ lj, bk2[j]? = some lj := ⟨_, List.getElem?_eq_getElem (by omega)⟩
      have kR5 := rowKept g4 [.int .i64 d.at', .int .i64 d.which, .bool d.ack] 0 []
      have o5' := o4.rest kR5
      obtain ⟨b6, o6, c6, cs6, es6, lv6, an6, ew, hk6, hg6, hle6, vj, hrow, slj⟩ := o5'.bs.sl.at' hlj
      simp only [Nat.mul_one] at hle6 hrow
      have hz : ¬ (n = 0) := by omega
      have el : bk2.length = n := by omega
      rw [el] at ew
      have hgs6 := lt_of_get hg6
      simp (disch := first | omega | (simp only [newRow_size, Array.size_setIfInBounds, Array.size_push]; done) | (simp only [newRow_size, Array.size_setIfInBounds, Array.size_push]; omega)) [eqT, eqF, neT, neF, ltT, ltF, leT, leF, nltT, nltF, nleT, nleF, nneT, nneF, List.getElem?_cons_zero, List.getElem?_cons_succ, r12_17, hg5, hd5, r12_18]
      simp (disch := first | omega | (simp only [newRow_size, Array.size_setIfInBounds, Array.size_push]; done) | (simp only [newRow_size, Array.size_setIfInBounds, Array.size_push]; omega)) [hbl, hjw, hjm, hz, eqT, eqF, neT, neF, ltT, ltF, leT, leF, nltT, nltF, nleT, nleF, nneT, nneF, List.getElem?_cons_zero, List.getElem?_cons_succ]
      rw [ew]
      simp (disch := first | omega | (simp only [newRow_size, Array.size_setIfInBounds, Array.size_push]; done) | (simp only [newRow_size, Array.size_setIfInBounds, Array.size_push]; omega)) [hg6, hrow, eqT, eqF, neT, neF, ltT, ltF, leT, leF, nltT, nltF, nleT, nleF, nneT, nneF, List.getElem?_cons_zero, List.getElem?_cons_succ]
      rw [← ew]
      refine swb_spec (F := F) (by omega) o5' (by omega) (n := g4.size) (a := d.at') (wh := d.which) (ack := d.ack) (l := lj) (by simp (disch := first | omega | (simp only [newRow_size, Array.size_setIfInBounds, Array.size_push]; done) | (simp only [newRow_size, Array.size_setIfInBounds, Array.size_push]; omega)) []) (List.mem_of_getElem? hlj) slj ?_
      intro g7 has7 e7 k7
      have o7 := o5'.rest k7
      have hn7 : hget g7 g4.size = some (.cells [.int .i64 d.at', .int .i64 d.which, .bool d.ack] 0 true []) := (k7.get (by first | omega | (simp only [newRow_size, Array.size_setIfInBounds, Array.size_push]; done) | (simp only [newRow_size, Array.size_setIfInBounds, Array.size_push]; omega)) (by simp)).trans (by simp (disch := first | omega | (simp only [newRow_size, Array.size_setIfInBounds, Array.size_push]; done) | (simp only [newRow_size, Array.size_setIfInBounds, Array.size_push]; omega)) [])
      simp (disch := first | omega | (simp only [newRow_size, Array.size_setIfInBounds, Array.size_push]; done) | (simp only [newRow_size, Array.size_setIfInBounds, Array.size_push]; omega)) [r12_24, hn7]
      cases hack : d.ack with
      | true =>
        simp (disch := first | omega | (simp only [newRow_size, Array.size_setIfInBounds, Array.size_push]; done) | (simp only [newRow_size, Array.size_setIfInBounds, Array.size_push]; omega)) [eqT, eqF, neT, neF, ltT, ltF, leT, leF, nltT, nltF, nleT, nleF, nneT, nneF, List.getElem?_cons_zero, List.getElem?_cons_succ, r12_25]
        refine Ans.next (Took_spec (F := F) (by omega) o7.sq o7.gq has7) ?_
        rintro y g8 ⟨rfl, f8, s8, k8⟩
        simp (disch := first | omega | (simp only [newRow_size, Array.size_setIfInBounds, Array.size_push]; done) | (simp only [newRow_size, Array.size_setIfInBounds, Array.size_push]; omega)) [r12_26, hw1]
        exact ih (60 - (i + 1)) _ _ (by omega) ⟨i + 1, f8, _, u2, w4, ps2, bk2, has7, rfl, by omega, rfl, o7.took has7 (k8.weak (by simp)) s8, hb4⟩
      | false =>
        simp (disch := first | omega | (simp only [newRow_size, Array.size_setIfInBounds, Array.size_push]; done) | (simp only [newRow_size, Array.size_setIfInBounds, Array.size_push]; omega)) [eqT, eqF, neT, neF, ltT, ltF, leT, leF, nltT, nltF, nleT, nleF, nneT, nneF, List.getElem?_cons_zero, List.getElem?_cons_succ, r12_26, hw1]
        exact ih (60 - (i + 1)) _ _ (by omega) ⟨i + 1, f2, q2, u2, w4, ps2, bk2, has7, rfl, by omega, rfl, o7, hb4⟩
    · simp (disch := first | omega | (simp only [newRow_size, Array.size_setIfInBounds, Array.size_push]; done) | (simp only [newRow_size, Array.size_setIfInBounds, Array.size_push]; omega)) [eqT, eqF, neT, neF, ltT, ltF, leT, leF, nltT, nltF, nleT, nleF, nneT, nneF, List.getElem?_cons_zero, List.getElem?_cons_succ, r12_26, hw1]
      exact ih (60 - (i + 1)) _ _ (by omega) ⟨i + 1, f2, q2, u2, w4, ps2, bk2, has, rfl, by omega, rfl, o4, hb4⟩
  · by_cases h1' : i < script.length
    · simp (disch := first | omega | (simp only [newRow_size, Array.size_setIfInBounds, Array.size_push]; done) | (simp only [newRow_size, Array.size_setIfInBounds, Array.size_push]; omega)) [l12_split, r12_8, hl, eqT, eqF, neT, neF, ltT, ltF, leT, leF, nltT, nltF, nleT, nleF, nneT, nneF, List.getElem?_cons_zero, List.getElem?_cons_succ, r12_28]
      refine Ans.next (known_spec (F := F) (by omega) g) ?_
      rintro u h2 ⟨rfl, k2⟩
      simp (disch := first | omega | (simp only [newRow_size, Array.size_setIfInBounds, Array.size_push]; done) | (simp only [newRow_size, Array.size_setIfInBounds, Array.size_push]; omega)) []
      exact Ans.of (hq _)
    · simp (disch := first | omega | (simp only [newRow_size, Array.size_setIfInBounds, Array.size_push]; done) | (simp only [newRow_size, Array.size_setIfInBounds, Array.size_push]; omega)) [l12_split, r12_8, hl, eqT, eqF, neT, neF, ltT, ltF, leT, leF, nltT, nltF, nleT, nleF, nneT, nneF, List.getElem?_cons_zero, List.getElem?_cons_succ, r12_28]
      refine Ans.next (known_spec (F := F) (by omega) g) ?_
      rintro u h2 ⟨rfl, k2⟩
      simp (disch := first | omega | (simp only [newRow_size, Array.size_setIfInBounds, Array.size_push]; done) | (simp only [newRow_size, Array.size_setIfInBounds, Array.size_push]; omega)) []
      exact Ans.of (hq _)

end Go.Proofs.Ytkkagpchcefidaa

/- QueueOwn: blocks by colours; lists that own their rows. -/
set_option linter.unusedSimpArgs false
set_option linter.unusedVariables false
namespace Go.Ev

/-- What a block is for: the n-th queue's own, its items, an answer's lists, all else. -/
inductive Col where
  | old
  | qs (n : Nat)
  | qc (n : Nat)
  | bk (n : Nat)
  | ans (j kind i k : Nat)
  deriving DecidableEq

abbrev Kp := Nat → Col

/-- The blocks from n on are of colour t. -/
def ext (κ : Kp) (n : Nat) (t : Col) : Kp := fun c => if c < n then κ c else t
theorem ext_lt {κ : Kp} {n : Nat} {t : Col} {c : Nat} (h : c < n) : ext κ n t c = κ c := by simp [ext, h]
theorem ext_ge {κ : Kp} {n : Nat} {t : Col} {c : Nat} (h : n ≤ c) : ext κ n t c = t := by simp [ext]; omega

/-- The elder blocks have the colours that they had. -/
def Agr (n : Nat) (κ κ' : Kp) : Prop := ∀ c, c < n → κ' c = κ c
theorem Agr.refl (n : Nat) (κ : Kp) : Agr n κ κ := fun _ _ => rfl
theorem Agr.trans {n m : Nat} {κ κ1 κ2 : Kp} (a : Agr n κ κ1) (b : Agr m κ1 κ2) (h : n ≤ m) : Agr n κ κ2 := fun c hc => (b c (Nat.lt_of_lt_of_le hc h)).trans (a c hc)
theorem Agr.ext {n m : Nat} {t : Col} {κ : Kp} (h : n ≤ m) : Agr n κ (ext κ m t) := fun c hc => ext_lt (Nat.lt_of_lt_of_le hc h)

/-- From one heap to the next only blocks of these colours change. -/
def Ch (κ : Kp) (S : Col → Prop) (g g' : H) : Prop := g.size ≤ g'.size ∧ ∀ c, c < g.size → ¬ S (κ c) → hget g' c = hget g c
def no : Col → Prop := fun _ => False

theorem Ch.refl (κ : Kp) (S : Col → Prop) (g : H) : Ch κ S g g := ⟨Nat.le_refl _, fun _ _ _ => rfl⟩
theorem Ch.of {κ : Kp} {S : Col → Prop} {g g' : H} (k : Kept g g' []) : Ch κ S g g' := ⟨k.1, fun c hc _ => k.get hc (by simp)⟩
theorem Ch.ofL {κ : Kp} {S : Col → Prop} {g g' : H} {L : List Nat} (k : Kept g g' L) (hL : ∀ c ∈ L, S (κ c)) : Ch κ S g g' := ⟨k.1, fun c hc hn => k.get hc (fun q => hn (hL c q))⟩
theorem Ch.trans {κ κ' : Kp} {S : Col → Prop} {g g1 g2 : H} (a : Ch κ S g g1) (b : Ch κ' S g1 g2) (hk : Agr g.size κ κ') : Ch κ S g g2 := ⟨Nat.le_trans a.1 b.1, fun c hc hn =>
  (b.2 c (Nat.lt_of_lt_of_le hc a.1) (by rw [hk c hc]; exact hn)).trans (a.2 c hc hn)⟩
theorem Ch.weak {κ : Kp} {S S' : Col → Prop} {g g' : H} (a : Ch κ S g g') (h : ∀ c, S c → S' c) : Ch κ S' g g' := ⟨a.1, fun c hc hn => a.2 c hc (fun q => hn (h _ q))⟩
theorem Ch.get {κ : Kp} {S : Col → Prop} {g g' : H} (k : Ch κ S g g') {c : Nat} {x : Blk} (h : hget g c = some x) (hn : ¬ S (κ c)) : hget g' c = some x := (k.2 c (lt_of_get h) hn).trans h
theorem Ch.cel {κ : Kp} {S : Col → Prop} {g g' : H} (k : Ch κ S g g') {c : Nat} {cs : List Value} (h : cel g c = some cs) (hn : ¬ S (κ c)) : cel g' c = some cs := (cel_congr (k.2 c (cel_lt h) hn)).trans h

/-- An element meets a claim. -/
abbrev PrC : H → List Value → (List Value → Prop) → Prop := fun _ cs p => p cs

/-- What is not of these blocks is as it was. -/
def Fr (ok : Nat → Prop) (h h' : H) : Prop := h.size ≤ h'.size ∧ ∀ c, c < h.size → ¬ ok c → hget h' c = hget h c
theorem Fr.refl (ok : Nat → Prop) (h : H) : Fr ok h h := ⟨Nat.le_refl _, fun _ _ _ => rfl⟩
theorem Fr.get {ok : Nat → Prop} {h h' : H} (k : Fr ok h h') {c : Nat} {x : Blk} (e : hget h c = some x) (hn : ¬ ok c) : hget h' c = some x := (k.2 c (lt_of_get e) hn).trans e

/-- A list that owns its row, and the rows before it. -/
def BldA {α : Type} (ok : Nat → Prop) (w : Nat) (R : H → List Value → α → Prop) (h : H) (v : Value) (xs : List α) : Prop :=
  (v = .slice none 0 0 ∧ xs = []) ∨
  ∃ b cs an, v = .slice (some ⟨b, 0, none⟩) xs.length xs.length ∧ ok b ∧ (∀ a ∈ an, a < h.size ∧ ok a) ∧ hget h b = some (.cells cs w true an) ∧ cs.length = xs.length * w ∧ ∀ (i : Nat) (x : α), xs[i]? = some x → R h ((cs.drop (i * w)).take w) x

section
variable {α β : Type} {ok ok' : Nat → Prop} {w : Nat} {R R2 : H → List Value → α → Prop} {R' : H → List Value → β → Prop} {h h' : H} {v : Value} {xs : List α} {κ κ' : Kp} {S : Col → Prop} {col : Col}

theorem BldA.b (s : BldA ok w R h v xs) : Bld ok w R h v xs := by
  rcases s with s | ⟨b, cs, an, e, hk, ha, hb, hl, hi⟩
  · exact .inl s
  · exact .inr ⟨b, cs, an, e, hk, hb, hl, hi⟩
theorem BldA.sl (s : BldA ok w R h v xs) : SlR ok w R h v xs := s.b.sl
theorem BldA.nil : BldA ok w R h (.slice none 0 0) ([] : List α) := .inl ⟨rfl, rfl⟩

/-- The list in another heap, its elements read otherwise. -/
theorem BldA.to {ys : List β} (s : BldA ok w R h v xs) (hz : h.size ≤ h'.size) (hl : ys.length = xs.length) (hok : ∀ c, c < h.size → ok c → ok' c) (hg : ∀ c x, hget h c = some x → ok c → hget h' c = some x)
    (hR : ∀ cs (i : Nat) x y, xs[i]? = some x → ys[i]? = some y → R h cs x → R' h' cs y) : BldA ok' w R' h' v ys := by
  rcases s with ⟨e, e'⟩ | ⟨b, cs, an, e, hk, ha, hb, hcl, hi⟩
  · subst e'
    exact .inl ⟨e, List.length_eq_zero_iff.1 hl⟩
  · refine .inr ⟨b, cs, an, by rw [hl]; exact e, hok b (lt_of_get hb) hk, fun a q => ⟨by have := (ha a q).1; omega, hok a (ha a q).1 (ha a q).2⟩, hg b _ hb hk, by rw [hl]; exact hcl, fun i y hy => ?_⟩
    have hi' := (List.getElem?_eq_some_iff.1 hy).1
    obtain ⟨x, hx⟩ : ∃ x, xs[i]? = some x := ⟨_, List.getElem?_eq_getElem (by omega)⟩
    exact hR _ i x y hx hy (hi i x hx)

theorem BldA.tr (s : BldA (fun c => κ c = col) w R h v xs) (k : Ch κ S h h') (hS : ¬ S col) (hk : Agr h.size κ κ')
    (hR : ∀ cs (i : Nat) x, xs[i]? = some x → R h cs x → R2 h' cs x) : BldA (fun c => κ' c = col) w R2 h' v xs :=
  s.to k.1 rfl (fun c hc q => (hk c hc).trans q) (fun c x e q => k.get e (by rw [q]; exact hS)) (fun cs i x y hx hy q => by rw [hx] at hy; cases hy; exact hR cs i x hx q)

theorem SlR.trC {R2 : H → List Value → α → Prop} (s : SlR (fun c => κ c = col) w R h v xs) (k : Ch κ S h h') (hS : ¬ S col) (hk : Agr h.size κ κ') (hR : ∀ cs, ∀ x ∈ xs, R h cs x → R2 h' cs x) : SlR (fun c => κ' c = col) w R2 h' v xs :=
  s.imp (fun c hc q => (hk c hc).trans q) hR (fun c cs q e => k.cel e (by rw [q]; exact hS))

theorem BldA.appN {bytes : Nat} (s : BldA ok w R h v xs) {new : List Value} {ys : List α} (hn : new.length = ys.length * w) (hb : (xs.length + ys.length) * bytes ≤ 2 ^ 47)
    (hok : ok h.size) (hR : ∀ h', Fr ok h h' → ∀ cs (i : Nat) y, xs[i]? = some y → R h cs y → R2 h' cs y) (hx : ∀ h', Fr ok h h' → ∀ (i : Nat) (y : α), ys[i]? = some y → R2 h' ((new.drop (i * w)).take w) y) :
    Ans (appendTo h w bytes v ys.length new) fun v' h' => BldA ok w R2 h' v' (xs ++ ys) ∧ Fr ok h h' ∧ KeptC h h' [] := by
  by_cases hz : ys.length = 0
  · have hys : ys = [] := List.length_eq_zero_iff.1 hz
    subst hys
    have e : appendTo h w bytes v 0 new = some (v, h) := by
      rcases s with ⟨rfl, rfl⟩ | ⟨b, cs, an, rfl, _⟩ <;> simp [appendTo]
    exact ⟨v, h, e, by simpa using s.to (Nat.le_refl _) rfl (fun _ _ q => q) (fun _ _ e _ => e) (fun cs i x y hx hy q => by rw [hx] at hy; cases hy; exact hR h (Fr.refl _ _) cs i x hx q), Fr.refl _ _, KeptC.refl _ _⟩
  rcases s with ⟨rfl, rfl⟩ | ⟨b, cs, an, rfl, hk, ha, hg, hl, hi⟩
  · have kc : KeptC h (newRow h new w []) [] := ⟨by simp, fun c hc _ => cel_congr (by simp [hc])⟩
    have fr : Fr ok h (newRow h new w []) := ⟨by simp, fun c hc _ => by simp [hc]⟩
    have hb' : ys.length * bytes ≤ 140737488355328 := by simpa using hb
    have hz' : ¬ ys = [] := fun e => hz (by rw [e]; rfl)
    refine ⟨.slice (some ⟨h.size, 0, none⟩) ys.length ys.length, newRow h new w [], ?_, ?_, fr, kc⟩
    · simp [appendTo, hb', hz']
    · exact .inr ⟨h.size, new, [], rfl, hok, by simp, by simp, by simpa using hn, fun i y hy => hx _ fr i y (by simpa using hy)⟩
  · have hbs := lt_of_get hg
    have kc : KeptC h (newRow (h.setIfInBounds b (.cells cs w false an)) (cs ++ new) w (b :: an)) [] := by
      refine ⟨by simp, fun c hc _ => ?_⟩
      by_cases e : b = c
      · subst e
        rw [cel_of hg]
        exact cel_of (es := w) (lv := false) (an := an) (by simp [hbs])
      · exact cel_congr (by simp [hc, e])
    have fr : Fr ok h (newRow (h.setIfInBounds b (.cells cs w false an)) (cs ++ new) w (b :: an)) := ⟨by simp, fun c hc hn => by
      have e : ¬ b = c := fun e => hn (e ▸ hk)
      simp [hc, e]⟩
    have e2 : cs.take (xs.length * w) = cs := List.take_of_length_le (by omega)
    refine ⟨.slice (some ⟨h.size, 0, none⟩) (xs.length + ys.length) (xs.length + ys.length), newRow (h.setIfInBounds b (.cells cs w false an)) (cs ++ new) w (b :: an), ?_, ?_, fr, kc⟩
    · have hb' : (xs.length + ys.length) * bytes ≤ 140737488355328 := by simpa using hb
      have hz' : ¬ ys = [] := fun e => hz (by rw [e]; rfl)
      have hnl : ¬ xs.length + ys.length ≤ xs.length := by omega
      simp [appendTo, hb', hg, hl, e2, hnl, hz']
    · refine .inr ⟨h.size, cs ++ new, b :: an, by simp, hok, ?_, by simp, by simp [hl, hn, Nat.add_mul], ?_⟩
      · intro a q
        simp only [newRow_size, Array.size_setIfInBounds]
        rcases List.mem_cons.1 q with rfl | q
        · exact ⟨by omega, hk⟩
        · exact ⟨by have := (ha a q).1; omega, (ha a q).2⟩
      · intro i y hy
        by_cases hi' : i < xs.length
        · rw [List.getElem?_append_left hi'] at hy
          rw [drop_take_append cs new xs.length w i hl hi']
          exact hR _ fr _ i _ hy (hi i y hy)
        · rw [List.getElem?_append_right (by omega)] at hy
          have := take_in_end cs new xs.length w (i - xs.length) hl
          rw [show xs.length + (i - xs.length) = i by omega] at this
          rw [this]
          exact hx _ fr _ _ hy

/-- One element, made ahead, is put behind a row of colour col. -/
theorem BldA.app {bytes : Nat} (s : BldA (fun c => κ c = col) w R h v xs) {new : List Value} (x : α) (hw : new.length = w) (hb : (xs.length + 1) * bytes ≤ 2 ^ 47)
    (hR : ∀ h', Ch κ (· = col) h h' → ∀ cs (i : Nat) y, xs[i]? = some y → R h cs y → R2 h' cs y) (hx : ∀ h', Ch κ (· = col) h h' → R2 h' new x) :
    Ans (appendTo (newRow h new w []) w bytes v 1 new) fun v' h' => BldA (fun c => ext κ h.size col c = col) w R2 h' v' (xs ++ [x]) ∧ Ch κ (· = col) h h' ∧ KeptC h h' [] := by
  have k := rowKept h new w []
  have z : (newRow h new w []).size = h.size + 1 := by simp
  have go : ∀ h', Fr (fun c => ext κ h.size col c = col) (newRow h new w []) h' → Ch κ (· = col) h h' := fun h' f => ⟨by have := f.1; omega, fun c hc hn => (f.2 c (by omega) (by show ¬ ext κ h.size col c = col; rw [ext_lt hc]; exact hn)).trans (k.get hc (by simp))⟩
  have s1 : BldA (fun c => ext κ h.size col c = col) w (fun _ cs y => ∃ i : Nat, xs[i]? = some y ∧ R h cs y) (newRow h new w []) v xs := s.to (by omega) rfl (fun c hc q => by rw [ext_lt hc]; exact q) (fun c x e _ => (k.get (lt_of_get e) (by simp)).trans e) (fun cs i x y hx hy q => by rw [hx] at hy; cases hy; exact ⟨i, hx, q⟩)
  refine (s1.appN (R2 := R2) (ys := [x]) (bytes := bytes) (by simpa using hw) (by simpa using hb) (by rw [z]; exact ext_ge (by omega)) (fun h' f cs i y hy ⟨j, hj, q⟩ => hR h' (go h' f) cs j y hj q) (fun h' f i y hy => ?_)).mono ?_
  · cases i with
    | succ i => simp at hy
    | zero =>
      simp at hy
      subst hy
      rw [Nat.zero_mul, List.drop_zero, List.take_of_length_le (by omega)]
      exact hx h' (go h' f)
  · rintro v' h' ⟨b5, f5, c5⟩
    exact ⟨b5, go h' f5, k.c.trans c5⟩

/-- Elements at other places are not touched by a write within one. -/
theorem splice_elem (cs new : List Value) {w n i j o : Nat} (hl : cs.length = n * w) (hi : i < n) (ho : o + new.length ≤ w) (hj : j < n) :
    (((cs.take (i * w + o) ++ new ++ cs.drop (i * w + o + new.length)).drop (j * w)).take w) = if j = i then ((cs.drop (i * w)).take w).take o ++ new ++ ((cs.drop (i * w)).take w).drop (o + new.length) else (cs.drop (j * w)).take w := by
  have h1 : (i + 1) * w ≤ n * w := Nat.mul_le_mul_right _ hi
  have h2 : (j + 1) * w ≤ n * w := Nat.mul_le_mul_right _ hj
  rw [Nat.add_mul] at h1 h2
  have hle : i * w + o + new.length ≤ cs.length := by omega
  have hel : ((cs.drop (i * w)).take w).length = w := by rw [List.length_take, List.length_drop]; omega
  apply List.ext_getElem?
  intro t
  by_cases ht : t < w
  · rw [List.getElem?_take, if_pos ht, List.getElem?_drop, splice_get cs new _ _ hle]
    by_cases e : j = i
    · subst e
      rw [if_pos rfl]
      have := splice_get ((cs.drop (j * w)).take w) new o t (by omega)
      rw [this]
      by_cases c1 : t < o
      · rw [if_pos (by omega), if_pos c1, List.getElem?_take, if_pos ht, List.getElem?_drop]
      · rw [if_neg (by omega), if_neg c1]
        by_cases c2 : t < o + new.length
        · rw [if_pos (by omega), if_pos c2]; congr 1; omega
        · rw [if_neg (by omega), if_neg c2, List.getElem?_take, if_pos ht, List.getElem?_drop]
    · rw [if_neg e, List.getElem?_take, if_pos ht, List.getElem?_drop]
      rcases Nat.lt_or_gt_of_ne e with c | c
      · have : (j + 1) * w ≤ i * w := Nat.mul_le_mul_right _ c
        rw [Nat.add_mul] at this
        rw [if_pos (by omega)]
      · have : (i + 1) * w ≤ j * w := Nat.mul_le_mul_right _ c
        rw [Nat.add_mul] at this
        rw [if_neg (by omega), if_neg (by omega)]
  · rw [List.getElem?_eq_none (by rw [List.length_take]; omega)]
    split
    · rw [List.getElem?_eq_none (by simp [hel]; omega)]
    · rw [List.getElem?_eq_none (by rw [List.length_take]; omega)]

/-- A write within one element. -/
theorem BldA.put (s : BldA ok w R h v xs) {i o : Nat} {x : α} (hx : xs[i]? = some x) {new : List Value} (ho : o + new.length ≤ w) (hone : new.all oneCell = true) :
    ∃ b cs an h', v = .slice (some ⟨b, 0, none⟩) xs.length xs.length ∧ hget h b = some (.cells cs w true an) ∧ i * w + w ≤ cs.length ∧ ok b ∧ R h ((cs.drop (i * w)).take w) x ∧ wr h b (i * w + o) new = some h' ∧ h'.size = h.size ∧ Fr ok h h' ∧
      ∀ {R2 : H → List Value → α → Prop} (y : α), (∀ cs (j : Nat) z, xs[j]? = some z → j ≠ i → R h cs z → R2 h' cs z) → (R2 h' (((cs.drop (i * w)).take w).take o ++ new ++ ((cs.drop (i * w)).take w).drop (o + new.length)) y) → BldA ok w R2 h' v (xs.set i y) := by
  have hil := (List.getElem?_eq_some_iff.1 hx).1
  rcases s with ⟨_, e'⟩ | ⟨b, cs, an, e, hk, ha, hg, hl, hi⟩
  · subst e'; simp at hil
  · have h1 : (i + 1) * w ≤ xs.length * w := Nat.mul_le_mul_right _ hil
    rw [Nat.add_mul] at h1
    have hbs := lt_of_get hg
    have hg' : h[b]? = some (.cells cs w true an) := hg
    have hle : i * w + o + new.length ≤ cs.length := by omega
    have hkz : (kill h an).size = h.size := kill_size _ _
    refine ⟨b, cs, an, (kill h an).setIfInBounds b (.cells (cs.take (i * w + o) ++ new ++ cs.drop (i * w + o + new.length)) w true []), e, hg, by omega, hk, hi i x hx, ?_, by simp [hkz], ⟨by simp [hkz], ?_⟩, ?_⟩
    · unfold wr
      rw [hg']
      simp only [hle, hone, and_self, if_true]
    · intro c hc hn
      have e1 : ¬ b = c := fun q => hn (q ▸ hk)
      have e2 : c ∉ an := fun q => hn (ha c q).2
      rw [set_other e1]
      show (kill h an)[c]? = h[c]?
      rw [kill_get, if_neg (fun q => e2 q.1)]
    · intro R2 y hR hy
      have e3 : hget ((kill h an).setIfInBounds b (.cells (cs.take (i * w + o) ++ new ++ cs.drop (i * w + o + new.length)) w true [])) b = some (.cells (cs.take (i * w + o) ++ new ++ cs.drop (i * w + o + new.length)) w true []) := set_self rfl (by rw [hkz]; exact hbs)
      refine .inr ⟨b, _, [], by rw [List.length_set]; exact e, hk, by simp, e3, ?_, ?_⟩
      · rw [List.length_set, ← hl]
        simp
        omega
      · intro j z hz
        have hjl := (List.getElem?_eq_some_iff.1 hz).1
        rw [List.length_set] at hjl
        rw [splice_elem cs new hl hil ho hjl]
        by_cases ej : j = i
        · subst ej
          rw [List.getElem?_set_self hil] at hz
          cases hz
          rw [if_pos rfl]
          exact hy
        · rw [List.getElem?_set_ne (fun q => ej q.symm)] at hz
          rw [if_neg ej]
          exact hR _ j z hz ej (hi j z hz)
end
end Go.Ev
