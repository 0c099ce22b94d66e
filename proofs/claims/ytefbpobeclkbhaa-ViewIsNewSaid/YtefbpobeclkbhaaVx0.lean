/- Blocks by colours: what lies where in a long script. -/
import Derived.Test.YtefbpobeclkbhaaVc5
import Derived.Test.YtefbpobeclkbhaaEv22
set_option linter.unusedSimpArgs false
set_option linter.unusedVariables false
namespace Go.Ev

/-- The blocks from n on are of colour t. -/
def ext (κ : Nat → Nat) (n t : Nat) : Nat → Nat := fun c => if c < n then κ c else t
theorem ext_lt {κ : Nat → Nat} {n t c : Nat} (h : c < n) : ext κ n t c = κ c := by simp [ext, h]
theorem ext_ge {κ : Nat → Nat} {n t c : Nat} (h : n ≤ c) : ext κ n t c = t := by simp [ext]; omega

/-- The elder blocks have the colours that they had. -/
def Agr (n : Nat) (κ κ' : Nat → Nat) : Prop := ∀ c, c < n → κ' c = κ c
theorem Agr.refl (n : Nat) (κ : Nat → Nat) : Agr n κ κ := fun _ _ => rfl
theorem Agr.trans {n m : Nat} {κ κ1 κ2 : Nat → Nat} (a : Agr n κ κ1) (b : Agr m κ1 κ2) (h : n ≤ m) : Agr n κ κ2 := fun c hc => (b c (Nat.lt_of_lt_of_le hc h)).trans (a c hc)
theorem Agr.ext {n m t : Nat} {κ : Nat → Nat} (h : n ≤ m) : Agr n κ (ext κ m t) := fun c hc => ext_lt (Nat.lt_of_lt_of_le hc h)

/-- From one heap to the next only blocks of these colours change. -/
def Cf (κ : Nat → Nat) (S : List Nat) (g g' : H) : Prop := g.size ≤ g'.size ∧ ∀ c, c < g.size → κ c ∉ S → hget g' c = hget g c

theorem Cf.of {κ : Nat → Nat} {S : List Nat} {g g' : H} (k : Kept g g' []) : Cf κ S g g' := ⟨k.1, fun c hc _ => k.get hc (by simp)⟩
theorem Cf.ofL {κ : Nat → Nat} {S : List Nat} {g g' : H} {L : List Nat} (k : Kept g g' L) (hL : ∀ c ∈ L, κ c ∈ S) : Cf κ S g g' := ⟨k.1, fun c hc hn => k.get hc (fun q => hn (hL c q))⟩
theorem Cf.trans {κ κ' : Nat → Nat} {S S' : List Nat} {g g1 g2 : H} (a : Cf κ S g g1) (b : Cf κ' S' g1 g2) (hk : Agr g.size κ κ') : Cf κ (S ++ S') g g2 := ⟨Nat.le_trans a.1 b.1, fun c hc hn => by
  rw [List.mem_append, not_or] at hn
  exact (b.2 c (Nat.lt_of_lt_of_le hc a.1) (by rw [hk c hc]; exact hn.2)).trans (a.2 c hc hn.1)⟩
theorem Cf.get {κ : Nat → Nat} {S : List Nat} {g g' : H} (k : Cf κ S g g') {c : Nat} {x : Blk} (h : hget g c = some x) (hn : κ c ∉ S) : hget g' c = some x := (k.2 c (lt_of_get h) hn).trans h

/-- An element reads as its cells. -/
def RC {α : Type} (f : α → List Value) (h : H) (cs : List Value) (x : α) : Prop := cs = f x
abbrev ValC : H → List Value → Value → Prop := RC fun v => [v]

section
variable {α : Type} {κ κ' : Nat → Nat} {S : List Nat} {s t w : Nat} {f : α → List Value} {g g' : H} {v : Value} {xs : List α}

theorem Bld.imp' {ok ok' : Nat → Prop} {R R' : H → List Value → α → Prop} {h : H} (s : Bld ok w R h v xs) (h1 : ∀ b, b < h.size → ok b → ok' b) (hR : ∀ cs, ∀ x ∈ xs, R h cs x → R' h cs x) : Bld ok' w R' h v xs := by
  rcases s with s | ⟨b, cs, an, e, hk, hb, hl, hi⟩
  · exact .inl s
  · exact .inr ⟨b, cs, an, e, h1 b (lt_of_get hb) hk, hb, hl, fun i x hx => hR _ _ (List.mem_of_getElem? hx) (hi i x hx)⟩

theorem Bld.tr (b : Bld (fun c => κ c = s) w (RC f) g v xs) (k : Cf κ S g g') (hst : s ∉ S) (hk : Agr g.size κ κ') : Bld (fun c => κ' c = s) w (RC f) g' v xs := by
  rcases b with b | ⟨b, cs, an, e, hb, hg, hl, hi⟩
  · exact .inl b
  · have hbs := lt_of_get hg
    exact .inr ⟨b, cs, an, e, (hk b hbs).trans hb, (k.2 b hbs (by rw [hb]; exact hst)).trans hg, hl, hi⟩

theorem SlR.tr (b : SlR (fun c => κ c = s) w (RC f) g v xs) (k : Cf κ S g g') (hst : s ∉ S) (hk : Agr g.size κ κ') : SlR (fun c => κ' c = s) w (RC f) g' v xs :=
  b.imp (fun c hc q => (hk c hc).trans q) (fun _ _ _ q => q) (fun c zs hc hz => (cel_congr (k.2 c (cel_lt hz) (by rw [hc]; exact hst))).trans hz)

/-- One element put behind a row of colour t. -/
theorem Bld.rapp {bytes : Nat} (b : Bld (fun c => κ c = t) w (RC f) g v xs) (x : α) (hw : (f x).length = w) (hl : (xs.length + 1) * bytes ≤ 2 ^ 47) :
    Ans (appendTo (newRow g (f x) w []) w bytes v 1 (f x)) fun v' g' => Bld (fun c => ext κ g.size t c = t) w (RC f) g' v' (xs ++ [x]) ∧ Cf κ [t] g g' := by
  have k := rowKept g (f x) w []
  have z : (newRow g (f x) w []).size = g.size + 1 := by simp
  have b' : Bld (fun c => ext κ g.size t c = t) w (RC f) (newRow g (f x) w []) v xs := (b.frame k (fun _ _ q => q)).imp' (fun c hc q => by
    by_cases h : c < g.size
    · rw [ext_lt h]; exact q
    · exact ext_ge (by omega)) (fun _ _ _ q => q)
  have bk : ∀ o n c c0, c0 < g.size → κ c0 ≠ t → v ≠ .slice (some ⟨c0, o, none⟩) n c := fun o n c c0 _ h => b.ne (b := c0) h o n c
  generalize newRow g (f x) w [] = g1 at k z b' ⊢
  refine (b'.app (x := x) (new := f x) hw hl (ext_ge (by omega)) (fun _ _ _ _ _ q => q) (fun _ _ => rfl)).mono ?_
  rintro v' g' ⟨b5, kc, z5, f5, _⟩
  exact ⟨b5, by have := kc.1; omega, fun c hc hn => (f5 c (by omega) (fun o n c' => bk o n c' c hc (by simpa using hn))).trans (k.get hc (by simp))⟩
end

theorem Bld.atV {ok : Nat → Prop} {g : H} {v x : Value} {xs : List Value} (s : Bld ok 1 ValC g v xs) {i : Nat} (hx : xs[i]? = some x) : ∃ b cs es lv an, v = .slice (some ⟨b, 0, none⟩) xs.length xs.length ∧ ok b ∧ hget g b = some (.cells cs es lv an) ∧ (cs.drop i).take 1 = [x] ∧ i + 1 ≤ cs.length := by
  have hil := (List.getElem?_eq_some_iff.1 hx).1
  rcases s with ⟨_, e⟩ | ⟨b, cs, an, e, hk, hb, hl, hi⟩
  · subst e; simp at hil
  · have := hi i x hx
    rw [Nat.mul_one] at this
    exact ⟨b, cs, 1, true, an, e, hk, hb, this, by omega⟩

end Go.Ev
