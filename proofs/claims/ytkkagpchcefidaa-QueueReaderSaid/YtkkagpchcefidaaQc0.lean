/- Clone, copiedChanges, copiedParts: copies in new memory. -/
import Derived.Test.YtkkagpchcefidaaQb0
import Derived.Test.YtkkagpchcefidaaQd0
set_option linter.unusedSimpArgs false
set_option linter.unusedVariables false
namespace Go.Proofs.Ytkkagpchcefidaa
open Go.Ev

/-- Built in memory that is newer than N. -/
abbrev since (N : Nat) : Nat → Prop := fun b => N ≤ b

def CloneP {α : Type} (w : Nat) (R : H → List Value → α → Prop) (h : H) (xs : List α) (v : Value) (h' : H) : Prop := Bld (since h.size) w R h' v xs ∧ Kept h h' []

theorem clone_core {α : Type} {w bytes : Nat} {R : H → List Value → α → Prop} {ok : Nat → Prop} {h : H} {v : Value} {xs : List α} (hw : 0 < w) (s : SlR ok w R h v xs)
    (hb : xs.length * bytes ≤ 2 ^ 47) (hcs : ∀ h cs x, R h cs x → cs.length = w ∧ cs.all oneCell = true) (hR : ∀ h h' cs x, KeptC h h' [] → R h cs x → R h' cs x) :
    ∃ new, srcOf (Ev.newRow h [] w []) w v = some (xs.length, new) ∧ new.all oneCell = true ∧ Ans (appendTo (Ev.newRow h [] w []) w bytes (.slice (some ⟨h.size, 0, none⟩) 0 0) xs.length new) (CloneP w R h xs) := by
  have k1 : Kept h (Ev.newRow h [] w []) [] := ⟨by simp, fun c hc _ => by simp [hc]⟩
  have s1 : SlR ok w R (Ev.newRow h [] w []) v xs := s.kc k1.c (by simp) fun cs x _ q => hR _ _ cs x k1.c q
  obtain ⟨new, e1, e2, e3⟩ := s1.src hw (fun cs x _ q => (hcs _ cs x q).1)
  refine ⟨new, e1, ?_, ?_⟩
  · rw [List.all_eq_true]
    intro c hc
    obtain ⟨j, hj, rfl⟩ := List.getElem_of_mem hc
    have hi : j / w < xs.length := by
      rw [e2] at hj
      exact Nat.div_lt_of_lt_mul (by rw [Nat.mul_comm]; exact hj)
    have hr := e3 (j / w) _ (List.getElem?_eq_getElem hi)
    have := List.all_eq_true.1 (hcs _ _ _ hr).2
    refine this _ ?_
    have hm : j % w < w := Nat.mod_lt _ hw
    have hjd : j / w * w + j % w = j := by rw [Nat.mul_comm]; exact Nat.div_add_mod j w
    rw [List.mem_iff_getElem?]
    refine ⟨j % w, ?_⟩
    rw [List.getElem?_take, if_pos hm, List.getElem?_drop, hjd]
    exact List.getElem?_eq_getElem hj
  · have b0 : Bld (since h.size) w R (Ev.newRow h [] w []) (.slice (some ⟨h.size, 0, none⟩) 0 0) ([] : List α) :=
      .inr ⟨h.size, [], [], rfl, Nat.le_refl _, by simp, by simp, by simp⟩
    refine (b0.appN (ys := xs) (bytes := bytes) e2 (by simpa using hb) (by simp [since]) (by simp) (fun h' k i y hy => hR _ _ _ _ k (e3 i y hy))).mono ?_
    rintro v' h' ⟨q1, q2, q3, q4, q5⟩
    refine ⟨by simpa using q1, ?_⟩
    refine ⟨by have := q2.1; simp at this; omega, fun c hc _ => ?_⟩
    rw [q4 c (by simp; omega) (fun o n c' e => by injection e with e; injection e with e; injection e with e; omega)]
    simp [hc]

theorem int_cells (h : H) (cs : List Value) (x : Int) (r : IntC h cs x) : cs.length = 1 ∧ cs.all oneCell = true := by
  have e : cs = [.int .i64 x] := r
  subst e; exact ⟨rfl, rfl⟩
theorem seen_cells (h : H) (cs : List Value) (x : Seen) (r : SeenC h cs x) : cs.length = 3 ∧ cs.all oneCell = true := by
  have e : cs = x.cells := r
  subst e; exact ⟨rfl, rfl⟩

theorem isnil_some {ok : Nat → Prop} {α : Type} {w : Nat} {R : H → List Value → α → Prop} {h : H} {v : Value} {xs : List α} (s : SlR ok w R h v xs) : (v = .slice none 0 0 ∧ xs = []) ∨ ∃ a n c, v = .slice (some a) n c := by
  rcases s with ⟨rfl | rfl, rfl⟩ | ⟨b, o, c, cs, rfl, _⟩
  · exact .inl ⟨rfl, rfl⟩
  · exact .inr ⟨_, _, _, rfl⟩
  · exact .inr ⟨_, _, _, rfl⟩

theorem cloneI_spec {F : Nat} (hF : 1 ≤ F) {ok : Nat → Prop} {h : H} {v : Value} {xs : List Int} (s : SlR ok 1 IntC h v xs) (hb : xs.length ≤ 17592186044416) : Ans (cf F 61 [v] h) (CloneP 1 IntC h xs) := by
  obtain ⟨F, rfl⟩ : ∃ G, F = G + 1 := ⟨F - 1, by omega⟩
  rw [cf_step (a := a61) rfl rfl (by simp [a61])]
  obtain ⟨new, e1, e2, e3⟩ := clone_core (bytes := 8) (by omega) s (by omega) int_cells (fun _ _ _ _ _ q => q)
  rcases isnil_some s with ⟨rfl, rfl⟩ | ⟨a, n, c, rfl⟩
  · simp (disch := first | omega | (simp only [newRow_size, Array.size_setIfInBounds, Array.size_push]; done) | (simp only [newRow_size, Array.size_setIfInBounds, Array.size_push]; omega)) [a61, r61_0, r61_1, r61_2, eqT, eqF, neT, neF, ltT, ltF, leT, leF, nltT, nltF, nleT, nleF, nneT, nneF, flipX, List.getElem?_cons_zero, List.getElem?_cons_succ]
    exact Ans.of ⟨Bld.nil _ _ _ _, Kept.refl _ _⟩
  · simp (disch := first | omega | (simp only [newRow_size, Array.size_setIfInBounds, Array.size_push]; done) | (simp only [newRow_size, Array.size_setIfInBounds, Array.size_push]; omega)) [a61, r61_0, r61_1, r61_3, eqT, eqF, neT, neF, ltT, ltF, leT, leF, nltT, nltF, nleT, nleF, nneT, nneF, flipX, List.getElem?_cons_zero, List.getElem?_cons_succ, e1, e2]
    refine Ans.next e3 ?_
    intro v' h' q
    simp (disch := first | omega | (simp only [newRow_size, Array.size_setIfInBounds, Array.size_push]; done) | (simp only [newRow_size, Array.size_setIfInBounds, Array.size_push]; omega)) []
    exact Ans.of q

theorem cloneS_spec {F : Nat} (hF : 1 ≤ F) {ok : Nat → Prop} {h : H} {v : Value} {xs : List Seen} (s : SlR ok 3 SeenC h v xs) (hb : xs.length ≤ 3518437208883) : Ans (cf F 62 [v] h) (CloneP 3 SeenC h xs) := by
  obtain ⟨F, rfl⟩ : ∃ G, F = G + 1 := ⟨F - 1, by omega⟩
  rw [cf_step (a := a62) rfl rfl (by simp [a62])]
  obtain ⟨new, e1, e2, e3⟩ := clone_core (bytes := 40) (by omega) s (by omega) seen_cells (fun _ _ _ _ _ q => q)
  rcases isnil_some s with ⟨rfl, rfl⟩ | ⟨a, n, c, rfl⟩
  · simp (disch := first | omega | (simp only [newRow_size, Array.size_setIfInBounds, Array.size_push]; done) | (simp only [newRow_size, Array.size_setIfInBounds, Array.size_push]; omega)) [a62, r62_0, r62_1, r62_2, eqT, eqF, neT, neF, ltT, ltF, leT, leF, nltT, nltF, nleT, nleF, nneT, nneF, flipX, List.getElem?_cons_zero, List.getElem?_cons_succ]
    exact Ans.of ⟨Bld.nil _ _ _ _, Kept.refl _ _⟩
  · simp (disch := first | omega | (simp only [newRow_size, Array.size_setIfInBounds, Array.size_push]; done) | (simp only [newRow_size, Array.size_setIfInBounds, Array.size_push]; omega)) [a62, r62_0, r62_1, r62_3, eqT, eqF, neT, neF, ltT, ltF, leT, leF, nltT, nltF, nleT, nleF, nneT, nneF, flipX, List.getElem?_cons_zero, List.getElem?_cons_succ, e1, e2]
    refine Ans.next e3 ?_
    intro v' h' q
    simp (disch := first | omega | (simp only [newRow_size, Array.size_setIfInBounds, Array.size_push]; done) | (simp only [newRow_size, Array.size_setIfInBounds, Array.size_push]; omega)) []
    exact Ans.of q

end Go.Proofs.Ytkkagpchcefidaa
