/- known, near. -/
import Derived.Test.YtmenfnapbggglaaLb6
import Derived.Test.YtmenfnapbggglaaLb3
set_option linter.unusedSimpArgs false
set_option linter.unusedVariables false
namespace Go.Proofs.Ytmenfnapbggglaa
open Go.Ev

theorem later_some {h : H} {b B : Nat} {m m' : Option Nat} {p : Int × Parcel} {fl : Flight} {last : Int} (l : LineAt h b m' (p :: fl) last) : ∃ x, m' = some x := by
  cases m' with
  | some x => exact ⟨x, rfl⟩
  | none => cases l.no rfl

theorem ab_ac : (turnB str97_98 1 1 == str97_99) = true := by kernel_rfl
theorem ab_len : slen str97_98 = 2 := by kernel_rfl

theorem known_spec (F : Nat) (h : H) : Ans (cf (F + 1 + 2 + 1) 21 [] h) fun r h' => r = .bool true ∧ Keeps h h' fun _ => False := by
  have hnew : ∀ h, cf (F + 1 + 2) 15 [] h = _ := fun h => new_eq (F + 2) h
  have hnum : ∀ n h, cf (F + 1 + 2) 20 [.int .i64 n] h = some (.int .i64 n, h) := fun n h => num_eq (F + 2) n h
  have hsend := @send_spec (F + 1)
  have hspoil := @spoil_spec (F + 1)
  have htake := @take_spec (F + 1)
  rw [cf_step (a := a21) rfl (by simp [a21])]
  generalize cf (F + 1 + 2) = c at hnew hnum hsend hspoil htake ⊢
  simp [a21, r21_0, r21_1, hnew, r21_2, r21_4]
  have hlen := ab_len
  have hac := ab_ac
  generalize str97_98 = ab at hlen hac ⊢
  have la : LineAt (Ev.newRow (Ev.newRow h [.map none, .int .i64 0] 0 []) [.int .i64 1, .int .i64 2, .string ab] 3 []) h.size none [] 0 :=
    ⟨by simp, fun _ => rfl, nofun⟩
  have mv : MsgsAt (Ev.newRow (Ev.newRow h [.map none, .int .i64 0] 0 []) [.int .i64 1, .int .i64 2, .string ab] 3 []) (.slice (some ⟨h.size + 1, 0, none⟩) 1 1) [⟨1, 2, ab⟩] :=
    .inr ⟨h.size + 1, 0, 1, [.int .i64 1, .int .i64 2, .string ab], 3, true, [], rfl, newRow_new (by simp), by simp, rfl⟩
  have k0 : Keeps h (Ev.newRow (Ev.newRow h [.map none, .int .i64 0] 0 []) [.int .i64 1, .int .i64 2, .string ab] 3 []) fun _ => False := ((Keeps.refl _ _).row _ _ _).row _ _ _
  generalize Ev.newRow (Ev.newRow h [.map none, .int .i64 0] 0 []) [.int .i64 1, .int .i64 2, .string ab] 3 [] = h0 at la mv k0 ⊢
  refine Ans.next (hsend (by simp) (by simp) mv la ⟨.nil, by simp, by simp⟩ (by simp) (by
    rintro x o n c e (rfl | e')
    · injection e with e1; injection e1 with e1; injection e1 with e1 e2; simp at e1
    · cases e')) ?_
  rintro r h1 ⟨or1, k1, m', la1, lat⟩
  simp [sendM] at la1 or1
  obtain ⟨x, rfl⟩ := later_some (B := 0) (m := none) la1
  have hx : h0.size ≤ x := by
    rcases lat with e | ⟨_, y, e, hy⟩
    · cases e
    · cases e; exact hy
  have hs0 := k0.1
  have hb0 := lt_of_get la.line
  simp [r21_5]
  refine Ans.next (hspoil la1 1 3 1) ?_
  intro w h2 hw
  simp [lk, hlen] at hw
  obtain ⟨rfl, k2, la2⟩ := hw
  simp [r21_6]
  refine Ans.next (htake la2 1) ?_
  intro w h3 hw
  simp [lk] at hw
  obtain ⟨rfl, k3, la3⟩ := hw
  simp [Msg.val, Msg.cells, r21_7]
  have la4 := la3.keeps0 (((Keeps.refl h3 _).row [.int .i64 0, .int .i64 0, .string { data := #[] }] 0 []).set_new (Nat.le_refl _) (.cells [.int .i64 1, .int .i64 2, .string (turnB ab 1 1)] 0 true []))
  refine Ans.next (htake la4 1) ?_
  intro w h4 hw
  simp [lk] at hw
  obtain ⟨rfl, k4⟩ := hw
  have hp : hget h4 h3.size = some (.cells [.int .i64 1, .int .i64 2, .string (turnB ab 1 1)] 0 true []) := k4.get (by simp) (by simp)
  have hps := lt_of_get hp
  have k34 : Keeps h3 h4 fun _ => False := (((Keeps.refl h3 _).row _ _ _).set_new (Nat.le_refl _) _).trans k4
  have or4 : OwnRow h4 r 1 1 (ints [1]) h0.size := by
    have a2 := or1.keeps' k2 fun b an _ hg e => by cases e; rw [(la1.yes x rfl).2] at hg; cases hg
    have a3 := a2.keeps' k3 fun b an _ hg e => by cases e; rw [(la2.yes x rfl).2] at hg; cases hg
    exact a3.keeps k34 (by simp)
  obtain ⟨q1, _⟩ | ⟨rb, hrb, rfl, ⟨an, hrg, _⟩, _⟩ := or4
  · cases q1
  have hrs := lt_of_get hrg
  simp [Msg.zero, Msg.val, Msg.cells, r21_8, hrg, hrs, hnum, hp, hps, ints, ne_at hrs, ne_at' hrs, ne_at hps, ne_at' hps, hac]
  refine Ans.of ⟨rfl, ?_⟩
  have k01 : Keeps h h1 fun _ => False := k0.past (k1.weak (by rintro y (rfl | e); exact .inr (Nat.le_refl _); cases e))
  have k12 : Keeps h h2 fun _ => False := k01.past (k2.weak (by rintro y rfl; exact .inr (by omega)))
  have k13 : Keeps h h3 fun _ => False := k12.past (k3.weak (by rintro y rfl; exact .inr (by omega)))
  have hs4 := (k13.trans k34).1
  exact ((k13.trans k34).row _ _ _).set_new (by omega) _

end Go.Proofs.Ytmenfnapbggglaa
