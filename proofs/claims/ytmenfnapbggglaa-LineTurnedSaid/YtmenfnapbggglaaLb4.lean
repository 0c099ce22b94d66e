/- Lists of messages in memory; short. -/
import Derived.Test.YtmenfnapbggglaaLb2
set_option linter.unusedSimpArgs false
set_option linter.unusedVariables false
namespace Go.Proofs.Ytmenfnapbggglaa
open Go.Ev

def mcells (l : List Msg) : List Value := l.flatMap Msg.cells

theorem mcells_length : ∀ l : List Msg, (mcells l).length = 3 * l.length
  | [] => rfl
  | m :: l => by
    have := mcells_length l
    unfold mcells at this ⊢
    rw [List.flatMap_cons, List.length_append, this, List.length_cons]
    simp only [Msg.cells, List.length_cons, List.length_nil]
    omega

/-- What a list of messages reads: element by element. -/
def MsgsAt (h : H) (v : Value) (l : List Msg) : Prop :=
  (l = [] ∧ v = .slice none 0 0) ∨
  (∃ b o c cs es lv an, v = .slice (some ⟨b, o, none⟩) l.length c ∧ hget h b = some (.cells cs es lv an) ∧ o + 3 * l.length ≤ cs.length ∧ (cs.drop o).take (3 * l.length) = mcells l)

theorem MsgsAt.keeps {h h' : H} {v : Value} {l : List Msg} (m : MsgsAt h v l) (k : Keeps h h' fun _ => False) : MsgsAt h' v l := by
  rcases m with m | ⟨b, o, c, cs, es, lv, an, h1, h2, h3, h4⟩
  · exact .inl m
  · exact .inr ⟨b, o, c, cs, es, lv, an, h1, k.get h2 (by simp), h3, h4⟩

theorem slice3 {cs : List Value} {o : Nat} {l : List Msg} (h3 : o + 3 * l.length ≤ cs.length) (h4 : (cs.drop o).take (3 * l.length) = mcells l) {i : Nat} (hi : i < l.length) : o + i * 3 + 3 ≤ cs.length ∧ (cs.drop (o + i * 3)).take 3 = (l[i]).cells := by
  refine ⟨by omega, ?_⟩
  have h5 : ((mcells l).drop (i * 3)).take 3 = (l[i]).cells := by
    clear h3 h4
    induction l generalizing i with
    | nil => simp at hi
    | cons m l ih =>
      cases i with
      | zero => rfl
      | succ i =>
        have hi' : i < l.length := by simpa using hi
        have := ih hi'
        rw [show (i + 1) * 3 = i * 3 + 3 by omega]
        simpa [mcells, Msg.cells, List.drop_append] using this
  rw [← h5, ← h4, List.drop_take, List.take_take, List.drop_drop, Nat.min_eq_left (by omega)]

theorem MsgsAt.read {h : H} {v : Value} {l : List Msg} (m : MsgsAt h v l) {i : Nat} (hi : i < l.length) :
    ∃ b o c cs es lv an, v = .slice (some ⟨b, o, none⟩) l.length c ∧ hget h b = some (.cells cs es lv an) ∧ o + i * 3 + 3 ≤ cs.length ∧ (cs.drop (o + i * 3)).take 3 = [.int .i64 (l[i]).fr, .int .i64 (l[i]).to, .string (l[i]).b] := by
  rcases m with ⟨rfl, _⟩ | ⟨b, o, c, cs, es, lv, an, h1, h2, h3, h4⟩
  · simp at hi
  · obtain ⟨h5, h6⟩ := slice3 h3 h4 hi
    exact ⟨b, o, c, cs, es, lv, an, h1, h2, h5, h6⟩

/-- A row of one's own (n elements of es cells), all of it behind B: it may grow. -/
def OwnRow (h : H) (v : Value) (es n : Nat) (cs : List Value) (B : Nat) : Prop :=
  (n = 0 ∧ cs = [] ∧ v = .slice none 0 0) ∨ (∃ b, B ≤ b ∧ v = .slice (some ⟨b, 0, none⟩) n n ∧ (∃ an, hget h b = some (.cells cs es true an) ∧ ∀ a ∈ an, B ≤ a) ∧ cs.length = n * es)

theorem OwnRow.keeps {h h' : H} {v : Value} {es n : Nat} {cs : List Value} {B : Nat} (o : OwnRow h v es n cs B) {S : Nat → Prop} (k : Keeps h h' S) (hs : ∀ b, B ≤ b → ¬ S b) : OwnRow h' v es n cs B := by
  rcases o with o | ⟨b, h1, h2, ⟨an, h3, h4⟩, h5⟩
  · exact .inl o
  · exact .inr ⟨b, h1, h2, ⟨an, k.get h3 (hs b h1), h4⟩, h5⟩

theorem OwnRow.keeps' {h h' : H} {v : Value} {es n : Nat} {cs : List Value} {B : Nat} (o : OwnRow h v es n cs B) {S : Nat → Prop} (k : Keeps h h' S) (hs : ∀ b an, B ≤ b → hget h b = some (.cells cs es true an) → ¬ S b) : OwnRow h' v es n cs B := by
  rcases o with o | ⟨b, h1, h2, ⟨an, h3, h4⟩, h5⟩
  · exact .inl o
  · exact .inr ⟨b, h1, h2, ⟨an, k.get h3 (hs b an h1 h3), h4⟩, h5⟩

theorem OwnRow.at {h : H} {v : Value} {es n : Nat} {cs : List Value} {B : Nat} (o : OwnRow h v es n cs B) {x n' : Nat} (e : v = .slice (some ⟨x, 0, none⟩) n' n') : ∃ an, hget h x = some (.cells cs es true an) := by
  rcases o with ⟨_, _, h3⟩ | ⟨b, h1, h2, ⟨an, h3, h4⟩, h5⟩
  · rw [h3] at e; cases e
  · rw [h2] at e; cases e; exact ⟨an, h3⟩

theorem OwnRow.msgs {h : H} {v : Value} {l : List Msg} {B : Nat} (o : OwnRow h v 3 l.length (mcells l) B) : MsgsAt h v l := by
  rcases o with ⟨h1, h2, h3⟩ | ⟨b, h1, h2, ⟨an, h3, h4⟩, h5⟩
  · exact .inl ⟨List.length_eq_zero_iff.1 h1, h3⟩
  · exact .inr ⟨b, 0, l.length, mcells l, 3, true, an, h2, h3, by rw [h5]; omega, by rw [List.drop_zero, List.take_of_length_le (by rw [h5]; omega)]⟩

/-- One more at the end of a row of one's own: a new block. -/
theorem append1 {h : H} {v : Value} {es n bytes : Nat} {cs : List Value} {B : Nat} (hB : B ≤ h.size) (o : OwnRow h v es n cs B) (m : List Value) (hm : m.length = es) (hl : (n + 1) * bytes ≤ 2 ^ 47) :
    ∃ h', appendTo h es bytes v 1 m = some (.slice (some ⟨h.size, 0, none⟩) (n + 1) (n + 1), h') ∧ h'.size = h.size + 1 ∧ OwnRow h' (.slice (some ⟨h.size, 0, none⟩) (n + 1) (n + 1)) es (n + 1) (cs ++ m) B ∧ Keeps h h' fun x => B ≤ x ∧ ∃ n, v = .slice (some ⟨x, 0, none⟩) n n := by
  rcases o with ⟨rfl, rfl, rfl⟩ | ⟨b, hb, rfl, ⟨an, hbl, han⟩, hlen⟩
  · have hl' : 1 * bytes ≤ 2 ^ 47 := by simpa using hl
    refine ⟨Ev.newRow h m es [], by simp only [appendTo, if_neg (Nat.succ_ne_zero 0), if_pos hl'], by simp, .inr ⟨h.size, hB, by simp, ⟨[], ?_, by simp⟩, by simp [hm]⟩, (Keeps.refl _ _).row _ _ _⟩
    rw [newRow_new rfl]; simp
  · have hbs := lt_of_get hbl
    have h1 : ¬ (n + 1 ≤ n) := by omega
    have hbl' : h[b]? = some (.cells cs es true an) := hbl
    refine ⟨Ev.newRow (h.setIfInBounds b (.cells cs es false an)) (cs ++ m) es (b :: an), ?_, by simp, .inr ⟨h.size, hB, by simp, ⟨b :: an, ?_, ?_⟩, ?_⟩, ?_⟩
    · simp only [appendTo, if_neg (Nat.succ_ne_zero 0), if_neg h1, if_pos hl, hbl', hlen, Nat.zero_add, Nat.le_refl, and_self, if_true, List.drop_zero]
      rw [List.take_of_length_le (by omega)]
    · rw [newRow_new (by simp)]
    · intro a ha
      rcases List.mem_cons.1 ha with rfl | ha
      · exact hb
      · exact han a ha
    · rw [List.length_append, hlen, hm, Nat.add_mul, Nat.one_mul]
    · exact ((Keeps.refl h _).set (fun _ => ⟨hb, n, rfl⟩) _).row _ _ _

end Go.Proofs.Ytmenfnapbggglaa
