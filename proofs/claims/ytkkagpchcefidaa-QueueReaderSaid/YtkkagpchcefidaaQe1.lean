/- Lists of stamps; tagged. -/
import Derived.Test.YtkkagpchcefidaaQe0
set_option linter.unusedSimpArgs false
set_option linter.unusedVariables false
namespace Go.Ev

/-- A list that was built by append, or the end of one. -/
def BldO {α : Type} (ok : Nat → Prop) (w : Nat) (R : H → List Value → α → Prop) (h : H) (v : Value) (xs : List α) : Prop :=
  (v = .slice none 0 0 ∧ xs = []) ∨
  ∃ b o cs an, v = .slice (some ⟨b, o, none⟩) xs.length xs.length ∧ ok b ∧ hget h b = some (.cells cs w true an) ∧ o + xs.length * w = cs.length ∧ ∀ (i : Nat) (x : α), xs[i]? = some x → R h ((cs.drop (o + i * w)).take w) x

section
variable {α : Type} {ok : Nat → Prop} {w : Nat} {R : H → List Value → α → Prop} {h h' : H} {v : Value} {xs : List α} {L : List Nat}

theorem BldO.nil (ok : Nat → Prop) (w : Nat) (R : H → List Value → α → Prop) (h : H) : BldO ok w R h (.slice none 0 0) [] := .inl ⟨rfl, rfl⟩

theorem Bld.o (s : Bld ok w R h v xs) : BldO ok w R h v xs := by
  rcases s with e | ⟨b, cs, an, e, hk, hb, hl, hi⟩
  · exact .inl e
  · exact .inr ⟨b, 0, cs, an, e, hk, hb, by omega, fun i x hx => by rw [Nat.zero_add]; exact hi i x hx⟩

theorem BldO.sl (s : BldO ok w R h v xs) : SlR ok w R h v xs := by
  rcases s with ⟨e, e'⟩ | ⟨b, o, cs, an, e, hk, hb, hl, hi⟩
  · exact .inl ⟨.inl e, e'⟩
  · refine .inr ⟨b, o, xs.length, cs, e, Nat.le_refl _, hk, cel_of hb, fun i x hx => ⟨?_, hi i x hx⟩⟩
    have hi' := (List.getElem?_eq_some_iff.1 hx).1
    have : (i + 1) * w ≤ xs.length * w := Nat.mul_le_mul_right _ (by omega)
    rw [Nat.add_mul] at this
    omega

theorem BldO.ne (s : BldO ok w R h v xs) {b : Nat} (hb : ¬ ok b) : ∀ o n c, v ≠ .slice (some ⟨b, o, none⟩) n c := by
  rintro o n c e
  rcases s with ⟨e', _⟩ | ⟨b', o', cs, an, e', hk, _⟩
  · rw [e] at e'; cases e'
  · rw [e] at e'
    injection e' with e' _ _
    injection e' with e'
    injection e' with e' _ _
    subst e'
    exact hb hk

theorem BldO.kept (s : BldO ok w R h v xs) (k : Kept h h' L) (hL : ∀ b ∈ L, ¬ ok b) (hR : ∀ cs, ∀ x ∈ xs, R h cs x → R h' cs x) : BldO ok w R h' v xs := by
  rcases s with e | ⟨b, o, cs, an, e, hk, hb, hl, hi⟩
  · exact .inl e
  · exact .inr ⟨b, o, cs, an, e, hk, (k.get (lt_of_get hb) (fun q => hL b q hk)).trans hb, hl, fun i x hx => hR _ x (List.mem_of_getElem? hx) (hi i x hx)⟩

theorem BldO.drop (s : BldO ok w R h v xs) {n : Nat} (hn : n ≤ xs.length) : ∃ v', slcV w v (some (.int .i64 n)) none = some v' ∧ BldO ok w R h v' (xs.drop n) := by
  rcases s with ⟨rfl, rfl⟩ | ⟨b, o, cs, an, rfl, hk, hb, hl, hi⟩
  · simp at hn; subst hn
    exact ⟨.slice none 0 0, by simp [slcV, optInt], .inl ⟨rfl, rfl⟩⟩
  · refine ⟨.slice (some ⟨b, o + n * w, none⟩) (xs.length - n) (xs.length - n), by simp [slcV, optInt, hn], .inr ⟨b, o + n * w, cs, an, ?_, hk, hb, ?_, ?_⟩⟩
    · rw [List.length_drop]
    · rw [List.length_drop]
      have : (n + (xs.length - n)) * w = xs.length * w := by congr 1; omega
      rw [Nat.add_mul] at this
      omega
    · intro i x hx
      rw [List.getElem?_drop] at hx
      have := hi (n + i) x hx
      rw [Nat.add_mul] at this
      rw [Nat.add_assoc]; exact this

/-- One element put behind. -/
theorem BldO.app {bytes : Nat} (s : BldO ok w R h v xs) {new : List Value} {x : α} (hn : new.length = w) (hb : (xs.length + 1) * bytes ≤ 2 ^ 47)
    (hok : ok h.size) (hR : ∀ h', KeptC h h' [] → ∀ cs, ∀ y ∈ xs, R h cs y → R h' cs y) (hx : ∀ h', KeptC h h' [] → R h' new x) :
    Ans (appendTo h w bytes v 1 new) fun v' h' => BldO ok w R h' v' (xs ++ [x]) ∧ KeptC h h' [] ∧ h.size ≤ h'.size ∧ (∀ b, b < h.size → (∀ o n c, v ≠ .slice (some ⟨b, o, none⟩) n c) → hget h' b = hget h b) := by
  rcases s with ⟨rfl, rfl⟩ | ⟨b, o, cs, an, rfl, hk, hg, hl, hi⟩
  · refine (Bld.app (w := w) (R := R) (ok := ok) (bytes := bytes) (x := x) (.inl ⟨rfl, rfl⟩) hn hb hok hR hx).mono ?_
    rintro v' h' ⟨a, k, y, g, _⟩
    exact ⟨a.o, k, k.1, g⟩
  · have hbs := lt_of_get hg
    have kc : KeptC h (newRow (h.setIfInBounds b (.cells cs w false an)) (((cs.drop o).take (xs.length * w)) ++ new) w (b :: an)) [] := by
      refine ⟨by simp, fun c hc _ => ?_⟩
      by_cases e : b = c
      · subst e
        rw [cel_of hg]
        exact cel_of (es := w) (lv := false) (an := an) (by simp [hbs])
      · exact cel_congr (by simp [hc, e])
    have e2 : (cs.drop o).take (xs.length * w) = cs.drop o := List.take_of_length_le (by rw [List.length_drop]; omega)
    have hb' : (xs.length + 1) * bytes ≤ 140737488355328 := by simpa using hb
    rw [e2] at kc
    refine ⟨.slice (some ⟨h.size, 0, none⟩) (xs.length + 1) (xs.length + 1), newRow (h.setIfInBounds b (.cells cs w false an)) (cs.drop o ++ new) w (b :: an), ?_, ?_, kc, by simp, ?_⟩
    · have hnl : ¬ xs.length + 1 ≤ xs.length := by omega
      have hle : o + xs.length * w ≤ cs.length := by omega
      simp [appendTo, hb', hg, hl, hle, hnl, e2]
    · refine .inr ⟨h.size, 0, cs.drop o ++ new, b :: an, by simp, hok, by simp, ?_, ?_⟩
      · simp [hn, Nat.add_mul]; omega
      · intro i y hy
        have hcl : (cs.drop o).length = xs.length * w := by rw [List.length_drop]; omega
        by_cases hi' : i < xs.length
        · rw [List.getElem?_append_left hi'] at hy
          rw [Nat.zero_add, drop_take_append (cs.drop o) new xs.length w i hcl hi', List.drop_drop]
          exact hR _ kc _ _ (List.mem_of_getElem? hy) (hi i y hy)
        · rw [List.getElem?_append_right (by omega)] at hy
          have h0 : i - xs.length = 0 := by
            have := (List.getElem?_eq_some_iff.1 hy).1
            simp at this; omega
          rw [h0] at hy
          simp at hy
          subst hy
          have := take_at_end (cs.drop o) new xs.length w hcl hn
          rw [Nat.zero_add, show i = xs.length by omega, this]
          exact hx _ kc
    · intro c hc hn'
      have : ¬ b = c := fun e => hn' o _ _ (by rw [e])
      simp [hc, this]

end
end Go.Ev
namespace Go.Proofs.Ytkkagpchcefidaa
open Go.Ev

theorem QAt.keptC {ok : Nat → Prop} {h h' : H} {b : Nat} {lk : Int} {r : Option Nat} {first : Nat} {q : Qm} (s : QAt ok h b lk r first q) (kb : hget h' b = hget h b) (kr : ∀ c, r = some c → hget h' c = hget h c) (kc : KeptC h h' []) : QAt ok h' b lk r first q := by
  refine ⟨kb.trans s.at', s.no, ?_, s.okb⟩
  intro c e
  obtain ⟨h1, h2, h3, h4, cs, h5, h6⟩ := s.yes c e
  exact ⟨h1, h2, h3, h4, cs, (kr c e).trans h5, h6.kc kc (by simp)⟩

theorem tagged_spec {F : Nat} (hF : 17592186044420 ≤ F) {ok : Nat → Prop} {h : H} {v : Value} {xs : List Tgd} (s : SlR ok 5 (TgdC ok) h v xs) (hs : xs.length ≤ 1954687338268) :
    Ans (cf F 28 [v] h) fun u h' => u = .bool (!(bare xs)) ∧ Kept h h' [] := by
  generalize hQ : (fun (u : Value) (h' : H) => u = .bool (!(bare xs)) ∧ Kept h h' []) = Q
  obtain ⟨F, rfl⟩ : ∃ G, F = G + 1 := ⟨F - 1, by omega⟩
  rw [cf_step (a := a28) rfl rfl (by simp [a28])]
  have hl := s.len
  simp (disch := first | omega | (simp only [newRow_size, Array.size_setIfInBounds, Array.size_push]; done) | (simp only [newRow_size, Array.size_setIfInBounds, Array.size_push]; omega)) [a28, r28_0, r28_1, eqT, eqF, neT, neF, ltT, ltF, leT, leF, nltT, nltF, nleT, nleF, nneT, nneF, List.getElem?_cons_zero, List.getElem?_cons_succ]
  refine loop_rule (fun m e g => ∃ (i : Nat), m = xs.length - i ∧ i ≤ xs.length ∧ e = [(0, v), (3, .int .i64 i)] ∧ g = h ∧ bare (xs.take i) = false) ?_ _ xs.length _ _ (by omega) ⟨0, by omega, by omega, rfl, rfl, rfl⟩
  rintro m e g again ⟨i, rfl, hi, rfl, rfl, hb⟩ ih
  by_cases hlt : i < xs.length
  · obtain ⟨x, hx⟩ : ∃ x, xs[i]? = some x := ⟨_, List.getElem?_eq_getElem hlt⟩
    obtain ⟨b, o, c, cs, es, lv, an, rfl, hk, hg, hle, hR⟩ := s.at' hx
    obtain ⟨vt, _, _, e4, st⟩ := hd_at hR hle
    have hw : IntKind.i64.wrap ((i : Int) + 1) = ((i + 1 : Nat) : Int) := by rw [IntKind.wrap_i64]; omega
    have ht := st.len
    by_cases hz : x.tags.length = 0
    · simp (disch := first | omega | (simp only [newRow_size, Array.size_setIfInBounds, Array.size_push]; done) | (simp only [newRow_size, Array.size_setIfInBounds, Array.size_push]; omega)) [l28_6, r28_2, hl, r28_3, hg, e4, ht, hz, eqT, eqF, neT, neF, ltT, ltF, leT, leF, nltT, nltF, nleT, nleF, nneT, nneF, List.getElem?_cons_zero, List.getElem?_cons_succ, r28_4]
      subst hQ
      have hbt : bare xs = true := by
        rw [bare_iff]
        exact ⟨x, List.mem_of_getElem? hx, List.length_eq_zero_iff.1 hz⟩
      exact Ans.of ⟨by rw [hbt]; rfl, Kept.refl _ _⟩
    · simp (disch := first | omega | (simp only [newRow_size, Array.size_setIfInBounds, Array.size_push]; done) | (simp only [newRow_size, Array.size_setIfInBounds, Array.size_push]; omega)) [l28_6, r28_2, hl, r28_3, hg, e4, ht, hz, eqT, eqF, neT, neF, ltT, ltF, leT, leF, nltT, nltF, nleT, nleF, nneT, nneF, List.getElem?_cons_zero, List.getElem?_cons_succ, r28_5, hw]
      refine ih _ _ _ (by omega) ⟨i + 1, rfl, by omega, rfl, rfl, ?_⟩
      rw [take_snoc hx]
      simp only [bare] at hb ⊢
      rw [List.any_append, hb]
      simp
      intro e
      rw [e] at hz; simp at hz
  · have hxi : i = xs.length := by omega
    subst hxi
    rw [List.take_length] at hb
    simp (disch := first | omega | (simp only [newRow_size, Array.size_setIfInBounds, Array.size_push]; done) | (simp only [newRow_size, Array.size_setIfInBounds, Array.size_push]; omega)) [l28_6, r28_2, hl, eqT, eqF, neT, neF, ltT, ltF, leT, leF, nltT, nltF, nleT, nleF, nneT, nneF, List.getElem?_cons_zero, List.getElem?_cons_succ, r28_7]
    subst hQ
    exact Ans.of ⟨by rw [hb]; rfl, Kept.refl _ _⟩

end Go.Proofs.Ytkkagpchcefidaa
