/- Take, Double, Spoil of the program's line. -/
import Derived.Test.YtmenfnapbggglaaLb1
set_option linter.unusedSimpArgs false
set_option linter.unusedVariables false
namespace Go.Proofs.Ytmenfnapbggglaa
open Go.Ev

theorem LineAt.keeps {h h' : H} {S : Nat → Prop} {b : Nat} {m : Option Nat} {fl : Flight} {last : Int} (l : LineAt h b m fl last) (k : Keeps h h' S) (h1 : ¬ S b) (h2 : ∀ x, m = some x → ¬ S x) : LineAt h' b m fl last :=
  ⟨k.get l.line h1, l.no, fun x hx => ⟨(l.yes x hx).1, k.get (l.yes x hx).2 (h2 x hx)⟩⟩

theorem LineAt.keeps0 {h h' : H} {b : Nat} {m : Option Nat} {fl : Flight} {last : Int} (l : LineAt h b m fl last) (k : Keeps h h' fun _ => False) : LineAt h' b m fl last := l.keeps k (by simp) (by simp)

theorem LineAt.some_of {h : H} {b : Nat} {m : Option Nat} {fl : Flight} {last : Int} (l : LineAt h b m fl last) {n : Int} {i j : Nat} {p : Parcel} (e : lk n fl j = some (i, p)) : ∃ x, m = some x := by
  cases m with
  | some x => exact ⟨x, rfl⟩
  | none => rw [l.no rfl] at e; cases e

theorem double_spec (F : Nat) {h : H} {b : Nat} {m : Option Nat} {fl : Flight} {last : Int} (l : LineAt h b m fl last) (w : Fl fl last) (hmax : last ≤ 1000000000) (n : Int) :
    Ans (cf (F + 2) 17 [.pointer (some ⟨b, 0, none⟩), .int .i64 n] h) fun v h' =>
      match lk n fl 0 with
      | none => v = .tuple ⟨[.int .i64 0, .int .i64 160]⟩ ∧ Keeps h h' fun _ => False
      | some (_, p) => if 256 ≤ fl.length then v = .tuple ⟨[.int .i64 0, .int .i64 46]⟩ ∧ Keeps h h' fun _ => False
        else v = .tuple ⟨[.int .i64 (last + 1), .int .i64 0]⟩ ∧ (Keeps h h' fun x => x = b ∨ m = some x) ∧ ∃ m', LineAt h' b (some m') (fl ++ [(last + 1, p)]) (last + 1) ∧ (m = some m' ∨ (m = none ∧ h.size ≤ m')) := by
  rw [cf_step (a := a17) rfl (by simp [a17])]
  simp [a17, r17_0, r17_1]
  refine Ans.next (look_spec F l n) ?_
  rintro v h1 ⟨rfl, k1⟩
  cases hlk : lk n fl 0 with
  | none =>
    simp [Msg.zero, Msg.val, Msg.cells, r17_2, r17_3]
    refine Ans.of ?_
    refine ⟨rfl, k1.trans ?_⟩
    repeat first | exact Keeps.refl _ _ | apply Keeps.row | refine Keeps.set_new ?_ (by omega) _
  | some q =>
    obtain ⟨i, p⟩ := q
    obtain ⟨x, rfl⟩ := l.some_of hlk
    have l1 := l.keeps0 k1
    have hb := l1.line
    have hbs := lt_of_get hb
    obtain ⟨hx1, hx2⟩ := l1.yes x rfl
    have hxs := lt_of_get hx2
    have hf := findM_ents n fl 0
    rw [hlk] at hf
    simp [Msg.val, Msg.cells, r17_2, r17_4, hbs, hb, hxs, hx2, hf, ne_at hbs, ne_at' hbs, ne_at hxs, ne_at' hxs]
    refine Ans.next (put_spec F (l1.keeps0 ?_) w hmax p) ?_
    · repeat first | exact Keeps.refl _ _ | apply Keeps.row | refine Keeps.set_new ?_ (by omega) _
    intro v h2 hq
    by_cases hfull : 256 ≤ fl.length
    · rw [if_pos hfull] at hq
      obtain ⟨rfl, k2⟩ := hq
      simp [hfull, r17_5, r17_6]
      refine Ans.of ?_
      refine ⟨rfl, k1.trans (Keeps.trans ?_ k2)⟩
      repeat first | exact Keeps.refl _ _ | apply Keeps.row | refine Keeps.set_new ?_ (by omega) _
    · rw [if_neg hfull] at hq
      obtain ⟨rfl, k2, m', l2, hm'⟩ := hq
      have hpos := w.pos
      have hneg : ¬ (last + 1 < 0) := by omega
      simp [hfull, hneg, r17_5, r17_7]
      refine Ans.of ?_
      rcases hm' with hm' | ⟨hm', _⟩
      · cases hm'
        refine ⟨rfl, (k1.weak (by simp)).trans (Keeps.trans ?_ (k2.weak (by simp))), l2⟩
        repeat first | exact Keeps.refl _ _ | apply Keeps.row | refine Keeps.set_new ?_ (by omega) _
      · cases hm'

theorem map_eraseIdx {α β : Type} (f : α → β) : ∀ (l : List α) (i : Nat), (l.map f).eraseIdx i = (l.eraseIdx i).map f
  | [], _ => rfl
  | _ :: _, 0 => rfl
  | a :: l, i + 1 => by simp [map_eraseIdx f l i]

theorem take_spec (F : Nat) {h : H} {b : Nat} {m : Option Nat} {fl : Flight} {last : Int} (l : LineAt h b m fl last) (n : Int) :
    Ans (cf (F + 2) 35 [.pointer (some ⟨b, 0, none⟩), .int .i64 n] h) fun v h' =>
      match lk n fl 0 with
      | none => v = .tuple ⟨[Msg.zero.val, .int .i64 160]⟩ ∧ Keeps h h' fun _ => False
      | some (i, p) => v = .tuple ⟨[p.1.val, .int .i64 0]⟩ ∧ (Keeps h h' fun x => m = some x) ∧ LineAt h' b m (fl.eraseIdx i) last := by
  have hbs := lt_of_get l.line
  rw [cf_step (a := a35) rfl (by simp [a35])]
  simp [a35, r35_0, r35_1]
  have l0 : LineAt (Ev.newRow h [.int .i64 0, .int .i64 0, .string { data := #[] }] 0 []) b m fl last := l.keeps0 ((Keeps.refl _ _).row _ _ _)
  refine Ans.next (look_spec F l0 n) ?_
  rintro v h1 ⟨rfl, k1⟩
  have h0 : hget h1 h.size = _ := k1.get (newRow_new rfl) (by simp)
  have h0s := lt_of_get h0
  have l1 := l0.keeps0 k1
  have hb := l1.line
  have hbs1 := lt_of_get hb
  have k1' := k1.1
  simp at k1'
  have kh1 : Keeps h h1 fun _ => False := Keeps.trans ((Keeps.refl _ _).row _ _ _) k1
  cases hlk : lk n fl 0 with
  | none =>
    simp [Msg.zero, Msg.val, Msg.cells, r35_2, r35_4, ne_at h0s, ne_at' h0s, h0, h0s]
    refine Ans.of ?_
    refine ⟨rfl, ?_⟩
    repeat first | exact kh1 | apply Keeps.row | refine Keeps.set_new ?_ (by omega) _
  | some q =>
    obtain ⟨i, p⟩ := q
    obtain ⟨x, rfl⟩ := l.some_of hlk
    have hx0 := lt_of_get (l.yes x rfl).2
    obtain ⟨hx1, hx2⟩ := l1.yes x rfl
    have hxs := lt_of_get hx2
    have hf := findM_ents n fl 0
    rw [hlk] at hf
    simp [Msg.val, Msg.cells, r35_2, r35_3, r35_4, ne_at h0s, ne_at' h0s, h0, h0s, hb, hbs, hbs1, hxs, hx2, hf, ne_at hbs1, ne_at' hbs1, ne_at hxs, ne_at' hxs, ne_at hx0, ne_at' hx0]
    refine Ans.of ?_
    refine ⟨rfl, ?_, ⟨?_, nofun, ?_⟩⟩
    · repeat first | exact kh1.weak (by simp) | apply Keeps.row | refine Keeps.set_new ?_ (by omega) _ | refine Keeps.set_may ?_ (by simp) _
    · simp [hbs, hbs1, hb, hx1, hx1.symm, ne_at hbs, ne_at' hbs, ne_at hbs1, ne_at' hbs1]
    · intro y hy
      cases hy
      refine ⟨hx1, ?_⟩
      simp [hxs, hx0, ne_at hx0, ne_at' hx0, ne_at hxs, ne_at' hxs, ents, map_eraseIdx, lt_far hxs]

end Go.Proofs.Ytmenfnapbggglaa
