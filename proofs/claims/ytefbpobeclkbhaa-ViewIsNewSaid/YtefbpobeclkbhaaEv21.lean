/- Ev21: lists in memory: what a slice reads as, by the contents of its row alone; lists that are being built by append. -/
import Derived.Test.YtefbpobeclkbhaaEv20
set_option linter.unusedSimpArgs false
set_option linter.unusedVariables false
namespace Go.Ev

theorem ba_self (b : ByteArray) : (b == b) = true := (MapKept.bytes_beq b b).2 rfl
theorem ba_nself (b : ByteArray) : (b != b) = false := by
  show (!(b == b)) = false
  rw [ba_self]; rfl

/-- The contents of a row. -/
def cel (h : H) (b : Nat) : Option (List Value) := match hget h b with
  | some (.cells cs _ _ _) => some cs
  | _ => none

theorem cel_of {h : H} {b : Nat} {cs : List Value} {es : Nat} {lv : Bool} {an : List Nat} (e : hget h b = some (.cells cs es lv an)) : cel h b = some cs := by
  unfold cel; rw [e]
theorem cel_inv {h : H} {b : Nat} {cs : List Value} (e : cel h b = some cs) : ∃ es lv an, hget h b = some (.cells cs es lv an) := by
  unfold cel at e
  split at e
  · rename_i h'
    cases e
    exact ⟨_, _, _, h'⟩
  · cases e
theorem cel_lt {h : H} {b : Nat} {cs : List Value} (e : cel h b = some cs) : b < h.size := by
  obtain ⟨_, _, _, e⟩ := cel_inv e
  exact lt_of_get e
theorem cel_congr {h h' : H} {b : Nat} (e : hget h' b = hget h b) : cel h' b = cel h b := by unfold cel; rw [e]

/-- The contents are as they were, but for some blocks'. -/
def KeptC (h h' : H) (L : List Nat) : Prop := h.size ≤ h'.size ∧ ∀ b, b < h.size → b ∉ L → cel h' b = cel h b
theorem KeptC.refl (h : H) (L : List Nat) : KeptC h h L := ⟨Nat.le_refl _, fun _ _ _ => rfl⟩
theorem KeptC.trans {h h1 h2 : H} {L : List Nat} (a : KeptC h h1 L) (b : KeptC h1 h2 L) : KeptC h h2 L :=
  ⟨Nat.le_trans a.1 b.1, fun x hx hs => (b.2 x (Nat.lt_of_lt_of_le hx a.1) hs).trans (a.2 x hx hs)⟩
theorem KeptC.weak {h h' : H} {L M : List Nat} (a : KeptC h h' L) (hs : ∀ b ∈ L, b ∈ M) : KeptC h h' M := ⟨a.1, fun b hb h => a.2 b hb fun q => h (hs b q)⟩
theorem Kept.c {h h' : H} {L : List Nat} (a : Kept h h' L) : KeptC h h' L := ⟨a.1, fun b hb hn => cel_congr (a.2 b hb hn)⟩

section
variable {α : Type}

/-- A slice reads as these: ok tells where its row may lie, w how many cells an element has, R what they say. -/
def SlR (ok : Nat → Prop) (w : Nat) (R : H → List Value → α → Prop) (h : H) (v : Value) (xs : List α) : Prop :=
  ((v = .slice none 0 0 ∨ v = .slice (some ⟨0, 0, some 0⟩) 0 0) ∧ xs = []) ∨
  ∃ b o c cs, v = .slice (some ⟨b, o, none⟩) xs.length c ∧ xs.length ≤ c ∧ ok b ∧ cel h b = some cs ∧ ∀ (i : Nat) (x : α), xs[i]? = some x → o + i * w + w ≤ cs.length ∧ R h ((cs.drop (o + i * w)).take w) x

variable {ok ok' : Nat → Prop} {w : Nat} {R R' : H → List Value → α → Prop} {h h' : H} {v : Value} {xs : List α} {L : List Nat}

theorem SlR.len (s : SlR ok w R h v xs) : lenV v = some (.int .i64 xs.length) := by
  rcases s with ⟨rfl | rfl, rfl⟩ | ⟨b, o, c, cs, rfl, _⟩ <;> simp [lenV]

theorem SlR.one (s : SlR ok w R h v xs) : oneCell v = true := by
  rcases s with ⟨rfl | rfl, rfl⟩ | ⟨b, o, c, cs, rfl, _⟩ <;> rfl
theorem SlR.vc (s : SlR ok w R h v xs) : vcells v = some [v] := by
  rcases s with ⟨rfl | rfl, rfl⟩ | ⟨b, o, c, cs, rfl, _⟩ <;> rfl
theorem SlR.same (s : SlR ok w R h v xs) : sameCell v v = true := by
  rcases s with ⟨rfl | rfl, rfl⟩ | ⟨b, o, c, cs, rfl, _⟩ <;> simp [sameCell]
theorem SlR.ne_text (s : SlR ok w R h v xs) : isText v = false := by
  rcases s with ⟨rfl | rfl, rfl⟩ | ⟨b, o, c, cs, rfl, _⟩ <;> rfl

theorem SlR.imp (s : SlR ok w R h v xs) (h1 : ∀ b, b < h.size → ok b → ok' b) (h2 : ∀ cs, ∀ x ∈ xs, R h cs x → R' h' cs x) (h3 : ∀ b cs, ok b → cel h b = some cs → cel h' b = some cs) : SlR ok' w R' h' v xs := by
  rcases s with s | ⟨b, o, c, cs, e, hc, hk, hb, hi⟩
  · exact .inl s
  · refine .inr ⟨b, o, c, cs, e, hc, h1 b (cel_lt hb) hk, h3 b cs hk hb, fun i x hx => ⟨(hi i x hx).1, h2 _ _ (List.mem_of_getElem? hx) (hi i x hx).2⟩⟩

theorem SlR.kc (s : SlR ok w R h v xs) (k : KeptC h h' L) (hL : ∀ b ∈ L, ¬ ok b) (hR : ∀ cs, ∀ x ∈ xs, R h cs x → R h' cs x) : SlR ok w R h' v xs :=
  s.imp (fun _ _ q => q) hR fun b cs hk hb => (k.2 b (cel_lt hb) (fun q => hL b q hk)).trans hb

theorem SlR.row (s : SlR ok w R h v xs) (hne : 0 < xs.length) : ∃ b o c cs, v = .slice (some ⟨b, o, none⟩) xs.length c ∧ xs.length ≤ c ∧ ok b ∧ cel h b = some cs ∧ ∀ (i : Nat) (x : α), xs[i]? = some x → o + i * w + w ≤ cs.length ∧ R h ((cs.drop (o + i * w)).take w) x := by
  rcases s with ⟨_, rfl⟩ | s
  · simp at hne
  · exact s

/-- What an element reads as, where it is read. -/
theorem SlR.at' (s : SlR ok w R h v xs) {i : Nat} {x : α} (hx : xs[i]? = some x) : ∃ b o c cs es lv an, v = .slice (some ⟨b, o, none⟩) xs.length c ∧ ok b ∧ hget h b = some (.cells cs es lv an) ∧ o + i * w + w ≤ cs.length ∧ R h ((cs.drop (o + i * w)).take w) x := by
  have hi := (List.getElem?_eq_some_iff.1 hx).1
  obtain ⟨b, o, c, cs, e, _, hk, hb, hr⟩ := s.row (by omega)
  obtain ⟨es, lv, an, hg⟩ := cel_inv hb
  exact ⟨b, o, c, cs, es, lv, an, e, hk, hg, (hr i x hx).1, (hr i x hx).2⟩

theorem rowKept (h : H) (cs : List Value) (es : Nat) (an : List Nat) : Kept h (newRow h cs es an) [] := ⟨by simp, fun c hc _ => by simp [hc]⟩

/-- A list that is being built: nil, or a row of its own, full to its end. -/
def Bld (ok : Nat → Prop) (w : Nat) (R : H → List Value → α → Prop) (h : H) (v : Value) (xs : List α) : Prop :=
  (v = .slice none 0 0 ∧ xs = []) ∨
  ∃ b cs an, v = .slice (some ⟨b, 0, none⟩) xs.length xs.length ∧ ok b ∧ hget h b = some (.cells cs w true an) ∧ cs.length = xs.length * w ∧ ∀ (i : Nat) (x : α), xs[i]? = some x → R h ((cs.drop (i * w)).take w) x

theorem Bld.sl (s : Bld ok w R h v xs) : SlR ok w R h v xs := by
  rcases s with ⟨e, e'⟩ | ⟨b, cs, an, e, hk, hb, hl, hi⟩
  · exact .inl ⟨.inl e, e'⟩
  · refine .inr ⟨b, 0, xs.length, cs, e, Nat.le_refl _, hk, cel_of hb, fun i x hx => ⟨?_, ?_⟩⟩
    · have hi' := (List.getElem?_eq_some_iff.1 hx).1
      have : (i + 1) * w ≤ xs.length * w := Nat.mul_le_mul_right _ hi'
      rw [Nat.add_mul] at this
      omega
    · rw [Nat.zero_add]; exact hi i x hx

theorem Bld.nil (ok : Nat → Prop) (w : Nat) (R : H → List Value → α → Prop) (h : H) : Bld ok w R h (.slice none 0 0) [] := .inl ⟨rfl, rfl⟩

theorem Bld.ne (s : Bld ok w R h v xs) {b : Nat} (hb : ¬ ok b) : ∀ o n c, v ≠ .slice (some ⟨b, o, none⟩) n c := by
  rintro o n c e
  rcases s with ⟨rfl, _⟩ | ⟨b', cs, an, e', hk, _⟩
  · cases e
  · rw [e'] at e
    injection e with e1
    injection e1 with e1
    injection e1 with e1
    exact hb (e1 ▸ hk)

theorem Bld.kept (s : Bld ok w R h v xs) (k : Kept h h' L) (hL : ∀ b ∈ L, ¬ ok b) (hR : ∀ cs, ∀ x ∈ xs, R h cs x → R h' cs x) : Bld ok w R h' v xs := by
  rcases s with s | ⟨b, cs, an, e, hk, hb, hl, hi⟩
  · exact .inl s
  · exact .inr ⟨b, cs, an, e, hk, (k.get (lt_of_get hb) (fun q => hL b q hk)).trans hb, hl, fun i x hx => hR _ _ (List.mem_of_getElem? hx) (hi i x hx)⟩

theorem Bld.frame (s : Bld ok w R h v xs) (k : Kept h h' []) (hR : ∀ cs x, R h cs x → R h' cs x) : Bld ok w R h' v xs :=
  s.kept k (by simp) fun cs x _ q => hR cs x q

theorem drop_take_append (cs new : List Value) (n w i : Nat) (hl : cs.length = n * w) (hi : i < n) : ((cs ++ new).drop (i * w)).take w = (cs.drop (i * w)).take w := by
  have h1 : (i + 1) * w ≤ n * w := Nat.mul_le_mul_right _ hi
  rw [Nat.add_mul] at h1
  rw [List.drop_append, List.take_append]
  have h2 : (List.drop (i * w) cs).length = n * w - i * w := by rw [List.length_drop, hl]
  have h3 : w - (List.drop (i * w) cs).length = 0 := by omega
  rw [h3, List.take_zero, List.append_nil]

theorem take_at_end (cs new : List Value) (n w : Nat) (hl : cs.length = n * w) (hn : new.length = w) : ((cs ++ new).drop (n * w)).take w = new := by
  rw [← hl, List.drop_left]
  exact List.take_of_length_le (by omega)

theorem take_in_end (cs new : List Value) (n w j : Nat) (hl : cs.length = n * w) : ((cs ++ new).drop ((n + j) * w)).take w = (new.drop (j * w)).take w := by
  rw [Nat.add_mul, ← hl, ← List.drop_drop, List.drop_left]

/-- Elements put behind. -/
theorem Bld.appN {bytes : Nat} (s : Bld ok w R h v xs) {new : List Value} {ys : List α} (hn : new.length = ys.length * w) (hb : (xs.length + ys.length) * bytes ≤ 2 ^ 47)
    (hok : ok h.size) (hR : ∀ h', KeptC h h' [] → ∀ cs, ∀ y ∈ xs, R h cs y → R h' cs y) (hx : ∀ h', KeptC h h' [] → ∀ (i : Nat) (y : α), ys[i]? = some y → R h' ((new.drop (i * w)).take w) y) :
    Ans (appendTo h w bytes v ys.length new) fun v' h' => Bld ok w R h' v' (xs ++ ys) ∧ KeptC h h' [] ∧ h'.size ≤ h.size + 1 ∧ (∀ b, b < h.size → (∀ o n c, v ≠ .slice (some ⟨b, o, none⟩) n c) → hget h' b = hget h b) ∧ (v' = v ∨ ∃ n c, v' = .slice (some ⟨h.size, 0, none⟩) n c) := by
  by_cases hz : ys.length = 0
  · have hys : ys = [] := List.length_eq_zero_iff.1 hz
    subst hys
    have e : appendTo h w bytes v 0 new = some (v, h) := by
      rcases s with ⟨rfl, rfl⟩ | ⟨b, cs, an, rfl, _⟩ <;> simp [appendTo]
    exact ⟨v, h, e, by simpa using s, KeptC.refl _ _, by omega, fun _ _ _ => rfl, .inl rfl⟩
  rcases s with ⟨rfl, rfl⟩ | ⟨b, cs, an, rfl, hk, hg, hl, hi⟩
  · have kc : KeptC h (newRow h new w []) [] := ⟨by simp, fun c hc _ => cel_congr (by simp [hc])⟩
    have hb' : ys.length * bytes ≤ 140737488355328 := by simpa using hb
    have hz' : ¬ ys = [] := fun e => hz (by rw [e]; rfl)
    refine ⟨.slice (some ⟨h.size, 0, none⟩) ys.length ys.length, newRow h new w [], ?_, ?_, kc, by simp, fun c hc _ => by simp [hc], .inr ⟨_, _, rfl⟩⟩
    · simp [appendTo, hb', hz']
    · exact .inr ⟨h.size, new, [], rfl, hok, by simp, by simpa using hn, fun i y hy => hx _ kc i y (by simpa using hy)⟩
  · have hbs := lt_of_get hg
    have kc : KeptC h (newRow (h.setIfInBounds b (.cells cs w false an)) (cs ++ new) w (b :: an)) [] := by
      refine ⟨by simp, fun c hc _ => ?_⟩
      by_cases e : b = c
      · subst e
        rw [cel_of hg]
        exact cel_of (es := w) (lv := false) (an := an) (by simp [hbs])
      · exact cel_congr (by simp [hc, e])
    have e2 : cs.take (xs.length * w) = cs := List.take_of_length_le (by omega)
    refine ⟨.slice (some ⟨h.size, 0, none⟩) (xs.length + ys.length) (xs.length + ys.length), newRow (h.setIfInBounds b (.cells cs w false an)) (cs ++ new) w (b :: an), ?_, ?_, kc, by simp, ?_, .inr ⟨_, _, rfl⟩⟩
    · have hb' : (xs.length + ys.length) * bytes ≤ 140737488355328 := by simpa using hb
      have hz' : ¬ ys = [] := fun e => hz (by rw [e]; rfl)
      have hnl : ¬ xs.length + ys.length ≤ xs.length := by omega
      simp [appendTo, hb', hg, hl, e2, hnl, hz']
    · refine .inr ⟨h.size, cs ++ new, b :: an, by simp, hok, by simp, by simp [hl, hn, Nat.add_mul], ?_⟩
      intro i y hy
      by_cases hi' : i < xs.length
      · rw [List.getElem?_append_left hi'] at hy
        rw [drop_take_append cs new xs.length w i hl hi']
        exact hR _ kc _ _ (List.mem_of_getElem? hy) (hi i y hy)
      · rw [List.getElem?_append_right (by omega)] at hy
        have := take_in_end cs new xs.length w (i - xs.length) hl
        rw [show xs.length + (i - xs.length) = i by omega] at this
        rw [this]
        exact hx _ kc _ _ hy
    · intro c hc hn'
      have : ¬ b = c := fun e => hn' 0 _ _ (by rw [e])
      simp [hc, this]

/-- One element put behind. -/
theorem Bld.app {bytes : Nat} (s : Bld ok w R h v xs) {new : List Value} {x : α} (hn : new.length = w) (hb : (xs.length + 1) * bytes ≤ 2 ^ 47)
    (hok : ok h.size) (hR : ∀ h', KeptC h h' [] → ∀ cs, ∀ y ∈ xs, R h cs y → R h' cs y) (hx : ∀ h', KeptC h h' [] → R h' new x) :
    Ans (appendTo h w bytes v 1 new) fun v' h' => Bld ok w R h' v' (xs ++ [x]) ∧ KeptC h h' [] ∧ h'.size ≤ h.size + 1 ∧ (∀ b, b < h.size → (∀ o n c, v ≠ .slice (some ⟨b, o, none⟩) n c) → hget h' b = hget h b) ∧ (v' = v ∨ ∃ n c, v' = .slice (some ⟨h.size, 0, none⟩) n c) := by
  refine s.appN (ys := [x]) (by simpa using hn) hb hok hR fun h' k i y hy => ?_
  cases i with
  | succ i => simp at hy
  | zero =>
    simp at hy
    subst hy
    rw [Nat.zero_mul, List.drop_zero, List.take_of_length_le (by omega)]
    exact hx h' k

/-- A slice of what nobody changes, handed in. -/
theorem SlR.src (s : SlR ok w R h v xs) (hw : 0 < w) (hcs : ∀ cs, ∀ x ∈ xs, R h cs x → cs.length = w) : ∃ new, srcOf h w v = some (xs.length, new) ∧ new.length = xs.length * w ∧ ∀ (i : Nat) (x : α), xs[i]? = some x → R h ((new.drop (i * w)).take w) x := by
  rcases s with ⟨rfl | rfl, rfl⟩ | ⟨b, o, c, cs, rfl, hc, hk, hb, hi⟩
  · exact ⟨[], by simp [srcOf], by simp, by simp⟩
  · exact ⟨[], by simp [srcOf], by simp, by simp⟩
  · obtain ⟨es', lv, an, hg⟩ := cel_inv hb
    by_cases hz : xs.length = 0
    · have hx : xs = [] := List.length_eq_zero_iff.1 hz
      subst hx
      exact ⟨[], by simp [srcOf], by simp, by simp⟩
    · have hlast := hi (xs.length - 1) xs[xs.length - 1] (List.getElem?_eq_getElem (by omega))
      have hle : o + xs.length * w ≤ cs.length := by
        have h1 := hlast.1
        have : (xs.length - 1) * w + w = xs.length * w := by
          rw [← Nat.succ_mul]; congr 1; omega
        omega
      refine ⟨(cs.drop o).take (xs.length * w), ?_, ?_, ?_⟩
      · simp [srcOf, hz, rd, hg, hle]
      · rw [List.length_take, List.length_drop]; omega
      · intro i x hx
        have hi' := (List.getElem?_eq_some_iff.1 hx).1
        have h1 : (i + 1) * w ≤ xs.length * w := Nat.mul_le_mul_right _ hi'
        rw [Nat.add_mul] at h1
        have := (hi i x hx).2
        rw [List.drop_take, List.take_take, List.drop_drop, Nat.min_eq_left (by omega)]
        exact this

end

end Go.Ev
