/- LineTurned. -/
import Derived.Test.YtmenfnapbggglaaLb8
set_option linter.unusedSimpArgs false
set_option linter.unusedVariables false
namespace Go.Proofs.Ytmenfnapbggglaa
open Go.Ev

theorem xorB_ne (c : UInt8) {turn : Int} (h1 : 1 ≤ turn) (h2 : turn ≤ 255) : xorB c turn ≠ c := by
  intro e
  have h := xorB_int c turn
  rw [e] at h
  unfold uxor at h
  have hw : IntKind.u8.wrap turn = turn := IntWalk.u8_in turn ⟨by omega, h2⟩
  rw [IntKind.wrap_u8, hw] at h
  change (((BitVec.ofInt 8 (c.toNat : Int) ^^^ BitVec.ofInt 8 turn).toNat : Nat) : Int) % 256 = _ at h
  have hc := c.toNat_lt
  have e2 : (BitVec.ofInt 8 (c.toNat : Int)).toNat = c.toNat := by
    rw [BitVec.toNat_ofInt]; omega
  have e5 : (BitVec.ofInt 8 turn).toNat = turn.toNat := by
    rw [BitVec.toNat_ofInt]; omega
  generalize BitVec.ofInt 8 (c.toNat : Int) = X at h e2
  generalize BitVec.ofInt 8 turn = Y at h e5
  have hlt := (X ^^^ Y).isLt
  have e3 : X ^^^ Y = X := BitVec.eq_of_toNat_eq (by omega)
  have e4 : Y = 0#8 := by
    have q : X ^^^ (X ^^^ Y) = X ^^^ X := by rw [e3]
    rw [← BitVec.xor_assoc, BitVec.xor_self, BitVec.zero_xor] at q
    exact q
  rw [e4] at e5
  simp at e5
  omega

theorem turnB_ne (t : ByteArray) {j : Nat} (hj : j < slen t) {turn : Int} (h1 : 1 ≤ turn) (h2 : turn ≤ 255) : turnB t j turn ≠ t := by
  intro e
  have hl : t.data.toList.length = slen t := by rw [Array.length_toList]; rfl
  obtain ⟨c, hc⟩ : ∃ c, t.data.toList[j]? = some c := ⟨_, List.getElem?_eq_getElem (by omega)⟩
  have q := congrArg (fun u : ByteArray => u.data.toList[j]?) e
  simp only [turnB, List.toList_toArray] at q
  rw [List.getElem?_set_self (by omega), hc, List.getD_eq_getElem?_getD, hc] at q
  exact xorB_ne c h1 h2 (Option.some.inj q)

theorem diffs_self : ∀ l : List UInt8, diffs l l = 0
  | [] => rfl
  | a :: l => by simp [diffs, diffs_self l]

theorem diffs_set : ∀ (l : List UInt8) (j : Nat) (y : UInt8), diffs (l.set j y) l ≤ 1
  | [], _, _ => by simp [diffs]
  | a :: l, 0, y => by
    simp only [List.set_cons_zero, diffs, diffs_self]
    split <;> omega
  | a :: l, j + 1, y => by simp [diffs, diffs_set l j y]

theorem turnB_len (t : ByteArray) (j : Nat) (turn : Int) : slen (turnB t j turn) = slen t := by
  have h1 : ∀ t : ByteArray, slen t = t.data.toList.length := fun t => by rw [Array.length_toList]; rfl
  rw [h1, h1]
  simp [turnB]

theorem cutM_len (m : Msg) : slen (cutM m).b ≤ 600 := by
  unfold cutM
  split
  · show (m.b.extract 0 600).size ≤ 600
    rw [ByteArray.size_extract]; omega
  · omega

theorem ba_self (b : ByteArray) : (b == b) = true := (MapKept.bytes_beq b b).2 rfl
theorem ba_ne {a b : ByteArray} (h : a ≠ b) : (a == b) = false := by
  cases e : a == b with
  | false => rfl
  | true => exact absurd ((MapKept.bytes_beq a b).1 e) h

def boxed (h : H) (cs : List Value) : H := Array.setIfInBounds (Ev.newRow h [.int .i64 0, .int .i64 0, .string { data := #[] }] 0 []) h.size (.cells cs 0 true [])
theorem box_step (h : H) (cs : List Value) : (Keeps h (boxed h cs) fun _ => False) ∧ hget (boxed h cs) h.size = some (.cells cs 0 true []) :=
  ⟨((Keeps.refl h _).row _ _ _).set_new (Nat.le_refl _) _, by simp [boxed]⟩

theorem turned_spec (F : Nat) (hF : 1000 ≤ F) (m : Msg) (at' turn again : Int) (h : H) :
    Ans (cf (F + 1 + 2 + 1 + 1) 3 [m.val, .int .i64 at', .int .i64 turn, .int .i64 again] h) fun r h' => r = .bool true := by
  have hknown := known_spec F
  have hlook := @look_spec (F + 1 + 2)
  have hnew : ∀ h, cf (F + 1 + 2 + 1) 15 [] h = _ := fun h => new_eq (F + 1 + 2) h
  have hnum := num_eq (F + 1 + 2)
  have hshort := @short_spec (F + 1 + 2) (by omega)
  have e2 : cf (F + 2 + 2) = cf (F + 1 + 2 + 1) := rfl
  have hsend := @send_spec (F + 2)
  have hspoil := @spoil_spec (F + 2)
  have hdouble := @double_spec (F + 2)
  have hnear := near_spec (F + 2)
  have e3 : cf (F + 2 + 1 + 1) = cf (F + 1 + 2 + 1) := rfl
  rw [e2] at hsend hspoil hdouble
  rw [e3] at hnear
  rw [cf_step (a := a3) rfl (by simp [a3])]
  clear e2 e3
  generalize cf (F + 1 + 2 + 1) = c at hknown hlook hnew hnum hshort hsend hspoil hdouble hnear ⊢
  simp [a3, r3_0, r3_1, Msg.val, Msg.cells]
  have mv0 : MsgsAt (Ev.newRow (Ev.newRow h m.cells 0 []) m.cells 3 []) (.slice (some ⟨h.size + 1, 0, none⟩) 1 1) [m] :=
    .inr ⟨h.size + 1, 0, 1, m.cells, 3, true, [], rfl, newRow_new (by simp), by simp [Msg.cells], rfl⟩
  have gA0 : hget (Ev.newRow (Ev.newRow h m.cells 0 []) m.cells 3 []) h.size = some (.cells m.cells 0 true []) := by simp
  have sz0 : h.size < (Ev.newRow (Ev.newRow h m.cells 0 []) m.cells 3 []).size := by simp
  simp only [Msg.cells] at mv0 gA0 sz0
  generalize Ev.newRow (Ev.newRow h [.int .i64 m.fr, .int .i64 m.to, .string m.b] 0 []) [.int .i64 m.fr, .int .i64 m.to, .string m.b] 3 [] = h0 at mv0 gA0 sz0 ⊢
  refine Ans.next (hshort mv0) ?_
  rintro r h1 ⟨or1, k1⟩
  have hcut : cut [m] = [cutM m] := rfl
  rw [hcut] at or1
  have hml := cutM_len m
  generalize cutM m = mm at or1 hml ⊢
  obtain ⟨q1, _⟩ | ⟨rb, hrb, rfl, ⟨an, hrg, _⟩, _⟩ := or1
  · cases q1
  have hrs := lt_of_get hrg
  have gA1 := k1.get gA0 (by simp)
  have sA1 := lt_of_get gA1
  generalize hA : h.size = A at *
  simp [hrg, hrs, mcells, Msg.cells, gA1, sA1]
  have gA2 : hget (h1.setIfInBounds A (.cells [.int .i64 mm.fr, .int .i64 mm.to, .string mm.b] 0 true [])) A = some (.cells [.int .i64 mm.fr, .int .i64 mm.to, .string mm.b] 0 true []) := set_self rfl sA1
  generalize h1.setIfInBounds A (.cells [.int .i64 mm.fr, .int .i64 mm.to, .string mm.b] 0 true []) = h2 at gA2 ⊢
  have sA2 := lt_of_get gA2
  simp [r3_2, hnew, r3_3, r3_5, gA2, sA2]
  have hL : A < h2.size := sA2
  have la : LineAt (Ev.newRow (Ev.newRow h2 [.map none, .int .i64 0] 0 []) [.int .i64 mm.fr, .int .i64 mm.to, .string mm.b, .int .i64 mm.fr, .int .i64 mm.to, .string mm.b] 3 []) h2.size none [] 0 :=
    ⟨by simp, fun _ => rfl, nofun⟩
  have mv : MsgsAt (Ev.newRow (Ev.newRow h2 [.map none, .int .i64 0] 0 []) [.int .i64 mm.fr, .int .i64 mm.to, .string mm.b, .int .i64 mm.fr, .int .i64 mm.to, .string mm.b] 3 []) (.slice (some ⟨h2.size + 1, 0, none⟩) 2 2) [mm, mm] :=
    .inr ⟨h2.size + 1, 0, 2, [.int .i64 mm.fr, .int .i64 mm.to, .string mm.b, .int .i64 mm.fr, .int .i64 mm.to, .string mm.b], 3, true, [], rfl, newRow_new (by simp), by simp, rfl⟩
  have gA3 : hget (Ev.newRow (Ev.newRow h2 [.map none, .int .i64 0] 0 []) [.int .i64 mm.fr, .int .i64 mm.to, .string mm.b, .int .i64 mm.fr, .int .i64 mm.to, .string mm.b] 3 []) A = some (.cells [.int .i64 mm.fr, .int .i64 mm.to, .string mm.b] 0 true []) := by simp [sA2, gA2]
  generalize Ev.newRow (Ev.newRow h2 [.map none, .int .i64 0] 0 []) [.int .i64 mm.fr, .int .i64 mm.to, .string mm.b, .int .i64 mm.fr, .int .i64 mm.to, .string mm.b] 3 [] = h3 at la mv gA3 ⊢
  refine Ans.next (hsend (by simp) (by simp) mv la ⟨.nil, by simp, by simp⟩ (by simp) (by
    rintro x o n c e (rfl | e')
    · injection e with e1; injection e1 with e1; injection e1 with e1 e2; simp at e1
    · cases e')) ?_
  rintro r h4 ⟨_, k4, m', la4, lat⟩
  simp [sendM] at la4
  obtain ⟨x, rfl⟩ := later_some (B := 0) (m := none) la4
  have hAL : A ≠ h2.size := Nat.ne_of_lt hL
  generalize h2.size = L at *
  have gA4 := k4.get gA3 (by simp [hAL])
  have hAx : x ≠ A := fun e => by rw [← e, (la4.yes x rfl).2] at gA4; cases gA4
  have w4 : Fl [(1, mm, false), (2, mm, false)] 2 := ⟨by simp, by simp, by simp⟩
  simp [r3_6]
  refine Ans.next (hdouble la4 w4 (by simp) 1) ?_
  intro v h5 hq
  simp [lk] at hq
  obtain ⟨rfl, k5, la5⟩ := hq
  have gA5 := k5.get gA4 (by simp [hAL, hAx])
  have w5 := w4.put (mm, false)
  simp at w5
  simp [r3_7]
  refine Ans.next (hspoil la5 1 at' turn) ?_
  intro v h6 hq
  simp only [lk, if_true] at hq
  by_cases hbad : at' < 0 ∨ turn < 1 ∨ 255 < turn ∨ slen mm.b = 0
  · rw [if_pos hbad] at hq
    obtain ⟨rfl, k6⟩ := hq
    have la6 := la5.keeps0 k6
    have gA6 := k6.get gA5 (by simp)
    have sA6 := lt_of_get gA6
    have fin : ∀ (N : Nat) (kn : K) (ke : Nat → K), Ans (evR c r3_9 [(1, .int .i64 at'), (2, .int .i64 turn), (3, .int .i64 again), (4, .pointer (some ⟨A, 0, none⟩)), (9, .pointer (some ⟨L, 0, none⟩)), (10, .int .i64 3), (11, .int .i64 0), (12, .int .i64 1), (68, .bool true)] h6
        (evC N c (.seq (.region r3_10 [8]) .ret) kn ke (endK (cfX fun _ => none) [.tmp 8])) [4, 12, 13, 14] []) fun r h' => r = .bool true := by
      intro N kn ke
      simp [r3_9]
      refine Ans.next (hlook la6 1) ?_
      rintro v h7 ⟨rfl, k7⟩
      have gA7 := k7.get gA6 (by simp)
      have sA7 := lt_of_get gA7
      simp [lk, Msg.val, Msg.cells, r3_10, hnum, gA7, ba_self, sA7, ne_at sA7, ne_at' sA7]
      refine Ans.next (hknown _) ?_
      rintro v h8 ⟨rfl, k8⟩
      simp
      exact Ans.of rfl
    by_cases c1 : at' < 0
    · simp [r3_8, c1]
      exact fin _ _ _
    by_cases c2 : turn < 1
    · simp [r3_8, c1, c2]
      exact fin _ _ _
    by_cases c3 : 255 < turn
    · simp [r3_8, c1, c2, c3]
      exact fin _ _ _
    have c4 : slen mm.b = 0 := by
      rcases hbad with h | h | h | h
      · exact absurd h c1
      · exact absurd h c2
      · exact absurd h c3
      · exact h
    have c4' : (((slen mm.b : Nat) : Int) == 0) = true := by simp [c4]
    simp [r3_8, c1, c2, c3, gA6, sA6, c4']
    exact fin _ _ _
  · rw [if_neg hbad, if_neg (by simp)] at hq
    obtain ⟨rfl, k6, la6⟩ := hq
    obtain ⟨c1, c2, c3, c4⟩ : ¬ at' < 0 ∧ ¬ turn < 1 ∧ ¬ 255 < turn ∧ ¬ slen mm.b = 0 := by
      refine ⟨fun e => hbad (.inl e), fun e => hbad (.inr (.inl e)), fun e => hbad (.inr (.inr (.inl e))), fun e => hbad (.inr (.inr (.inr e)))⟩
    have c4' : (((slen mm.b : Nat) : Int) == 0) = false := by simp [c4]
    have gA6 := k6.get gA5 (by simp; exact hAx)
    have sA6 := lt_of_get gA6
    simp only [List.set_cons_zero] at la6
    obtain ⟨j, hj⟩ : ∃ j : Nat, (at' % (slen mm.b : Int)).toNat = j := ⟨_, rfl⟩
    rw [hj] at la6
    have w6 : Fl [(1, (⟨mm.fr, mm.to, turnB mm.b j turn⟩, true)), (2, (mm, false)), (3, (mm, false))] 3 := ⟨by simp, by simp, by simp⟩
    have hnm : (turnB mm.b j turn == mm.b) = false := by
      refine ba_ne (turnB_ne _ ?_ (by omega) (by omega))
      have c4z : ¬ ((slen mm.b : Nat) : Int) = 0 := by omega
      have := Int.emod_lt_of_pos at' (show (0 : Int) < (slen mm.b : Int) by omega)
      have := Int.emod_nonneg at' c4z
      omega
    have hnear' := fun h => hnear h ⟨mm.fr, mm.to, turnB mm.b j turn⟩ mm rfl rfl (turnB_len _ _ _) (by rw [turnB_len]; omega) (by rw [turnB_len]; omega) (by simp only [turnB, List.toList_toArray]; exact diffs_set _ _ _)
    obtain ⟨tb, htb⟩ : ∃ tb, turnB mm.b j turn = tb := ⟨_, rfl⟩
    rw [htb] at la6 w6 hnm hnear'
    have htl : slen tb = slen mm.b := by rw [← htb, turnB_len]
    simp [r3_8, c1, c2, c3, gA6, sA6, c4', r3_11]
    refine Ans.next (hdouble la6 w6 (by simp) 1) ?_
    intro v h7 hq
    simp [lk] at hq
    obtain ⟨rfl, k7, la7⟩ := hq
    have gA7 := k7.get gA6 (by simp [hAL, hAx])
    simp [r3_12]
    refine Ans.next (hlook la7 1) ?_
    rintro v h8 ⟨rfl, k8⟩
    have la8 := la7.keeps0 k8
    have gA8 := k8.get gA7 (by simp)
    simp [lk, Msg.val, Msg.cells, r3_13]
    obtain ⟨kb, gb⟩ := box_step h8 [.int .i64 mm.fr, .int .i64 mm.to, .string tb]
    unfold boxed at kb gb
    generalize Array.setIfInBounds (Ev.newRow h8 [.int .i64 0, .int .i64 0, .string { data := #[] }] 0 []) h8.size (.cells [.int .i64 mm.fr, .int .i64 mm.to, .string tb] 0 true []) = g8 at kb gb ⊢
    have la8 := la8.keeps0 kb
    have gA8 := kb.get gA8 (by simp)
    generalize h8.size = P17 at gb ⊢
    refine Ans.next (hlook la8 2) ?_
    rintro v h9 ⟨rfl, k9⟩
    have la9 := la8.keeps0 k9
    have gA9 := k9.get gA8 (by simp)
    have g17 := k9.get gb (by simp)
    clear kb gb k8 gA8 la8
    simp [lk, Msg.val, Msg.cells, r3_14]
    obtain ⟨kb, g19⟩ := box_step h9 [.int .i64 mm.fr, .int .i64 mm.to, .string mm.b]
    unfold boxed at kb g19
    generalize Array.setIfInBounds (Ev.newRow h9 [.int .i64 0, .int .i64 0, .string { data := #[] }] 0 []) h9.size (.cells [.int .i64 mm.fr, .int .i64 mm.to, .string mm.b] 0 true []) = g9 at kb g19 ⊢
    have la9 := la9.keeps0 kb
    have gA9 := kb.get gA9 (by simp)
    have g17 := kb.get g17 (by simp)
    generalize h9.size = P19 at g19 ⊢
    refine Ans.next (hlook la9 3) ?_
    rintro v h10 ⟨rfl, k10⟩
    have la10 := la9.keeps0 k10
    have gA10 := k10.get gA9 (by simp)
    have g17 := k10.get g17 (by simp)
    have g19 := k10.get g19 (by simp)
    clear kb k9 gA9 la9 k10
    simp [lk, Msg.val, Msg.cells, r3_15]
    obtain ⟨kb, g21⟩ := box_step h10 [.int .i64 mm.fr, .int .i64 mm.to, .string mm.b]
    unfold boxed at kb g21
    generalize Array.setIfInBounds (Ev.newRow h10 [.int .i64 0, .int .i64 0, .string { data := #[] }] 0 []) h10.size (.cells [.int .i64 mm.fr, .int .i64 mm.to, .string mm.b] 0 true []) = g10 at kb g21 ⊢
    have la10 := la10.keeps0 kb
    have gA10 := kb.get gA10 (by simp)
    have g17 := kb.get g17 (by simp)
    have g19 := kb.get g19 (by simp)
    generalize h10.size = P21 at g21 ⊢
    refine Ans.next (hlook la10 4) ?_
    rintro v h11 ⟨rfl, k11⟩
    have la11 := la10.keeps0 k11
    have gA11 := k11.get gA10 (by simp)
    have g17 := k11.get g17 (by simp)
    have g19 := k11.get g19 (by simp)
    have g21 := k11.get g21 (by simp)
    clear kb gA10 la10 k11
    simp [lk, Msg.val, Msg.cells]
    obtain ⟨kb, g23⟩ := box_step h11 [.int .i64 mm.fr, .int .i64 mm.to, .string tb]
    unfold boxed at kb g23
    generalize Array.setIfInBounds (Ev.newRow h11 [.int .i64 0, .int .i64 0, .string { data := #[] }] 0 []) h11.size (.cells [.int .i64 mm.fr, .int .i64 mm.to, .string tb] 0 true []) = g11 at kb g23 ⊢
    have la11 := la11.keeps0 kb
    have gA11 := kb.get gA11 (by simp)
    have g17 := kb.get g17 (by simp)
    have g19 := kb.get g19 (by simp)
    have g21 := kb.get g21 (by simp)
    generalize h11.size = P23 at g23 ⊢
    clear kb
    simp [r3_16, hnum, gA11, g17, g19, g21, g23, ba_self, hnm]
    refine Ans.next (hnear' _) ?_
    rintro v h12 ⟨rfl, k12⟩
    have la12 := la11.keeps0 k12
    have gA12 := k12.get gA11 (by simp)
    have g17 := k12.get g17 (by simp)
    have s17 := lt_of_get g17
    have sA12 := lt_of_get gA12
    have c4z : ¬ ((slen mm.b : Nat) : Int) = 0 := by omega
    have hjl : j < slen mm.b := by
      have := Int.emod_lt_of_pos at' (show (0 : Int) < (slen mm.b : Int) by omega)
      have := Int.emod_nonneg at' c4z
      omega
    have htm : at'.tmod (slen mm.b : Int) = (j : Int) := by
      rw [Int.tmod_eq_emod_of_nonneg (by omega)]
      have := Int.emod_nonneg at' c4z
      omega
    have hml' : mm.b.data.toList.length = slen mm.b := by rw [Array.length_toList]; rfl
    obtain ⟨c0, hc0⟩ : ∃ c0, mm.b.data.toList[j]? = some c0 := ⟨_, List.getElem?_eq_getElem (by omega)⟩
    have hcj : mm.b.data[j]? = some c0 := by rw [← Array.getElem?_toList]; exact hc0
    have htj : tb.data[j]? = some (xorB c0 turn) := by
      rw [← htb, ← Array.getElem?_toList]
      simp only [turnB, List.toList_toArray]
      rw [List.getElem?_set_self (by omega), List.getD_eq_getElem?_getD, hc0]; rfl
    have hxi := xorB_int c0 turn
    simp [r3_18, gA12, sA12, c4, c4z, htm]
    simp [d3_19, g17, s17, gA12, sA12, hcj, htj, hxi]
    simp [r3_21]
    have hone : ∀ (hh : H) (i : Nat) (n : Int) (fl : Flight) (last : Int), LineAt hh L (some x) fl last → lk n fl 0 = some (i, (⟨mm.fr, mm.to, tb⟩, true)) →
        Ans (c 18 [.pointer (some ⟨L, 0, none⟩), .int .i64 n, .int .i64 again, .int .i64 turn] hh) fun v h' => v = .int .i64 (if again < 0 then 1 else 161) ∧ Keeps hh h' fun _ => False := by
      intro hh i n fl last hla hlk
      refine (hspoil hla n again turn).mono fun v h' hq => ?_
      rw [hlk] at hq
      simp only [htl] at hq
      by_cases ca : again < 0
      · rw [if_pos (.inl ca)] at hq; rw [if_pos ca]; exact hq
      · rw [if_neg (by simp [ca, c2, c3, c4]), if_pos trivial] at hq; rw [if_neg ca]; exact hq
    refine Ans.next (hone h12 0 1 _ _ la12 (by simp [lk])) ?_
    rintro v h13 ⟨rfl, k13⟩
    have la13 := la12.keeps0 k13
    have g17 := k13.get g17 (by simp)
    simp [r3_22]
    refine Ans.next (hone h13 3 4 _ _ la13 (by simp [lk])) ?_
    rintro v h14 ⟨rfl, k14⟩
    have la14 := la13.keeps0 k14
    have g17 := k14.get g17 (by simp)
    simp [r3_23]
    refine Ans.next (hspoil la14 3 at' turn) ?_
    intro v h15 hq
    simp only [lk] at hq
    simp [hbad, hj, htb] at hq
    obtain ⟨rfl, k15, la15⟩ := hq
    have hx17 : ¬ x = P17 := fun e => by rw [← e, (la14.yes x rfl).2] at g17; cases g17
    have g17 := k15.get g17 (by simp [hx17])
    simp [r3_24]
    refine Ans.next (hlook la15 3) ?_
    rintro v h16 ⟨rfl, k16⟩
    have g17 := k16.get g17 (by simp)
    simp [lk, Msg.val, Msg.cells]
    obtain ⟨kb, g29⟩ := box_step h16 [.int .i64 mm.fr, .int .i64 mm.to, .string tb]
    unfold boxed at kb g29
    generalize Array.setIfInBounds (Ev.newRow h16 [.int .i64 0, .int .i64 0, .string { data := #[] }] 0 []) h16.size (.cells [.int .i64 mm.fr, .int .i64 mm.to, .string tb] 0 true []) = g16 at kb g29 ⊢
    have g17 := kb.get g17 (by simp)
    generalize h16.size = P29 at g29 ⊢
    by_cases ca : again < 0
    · have ca' : ¬ (0 ≤ again) := by omega
      simp [r3_25, ca, ca', hnum, r3_27, g17, g29, ba_self]
      refine Ans.next (hknown _) ?_
      rintro v h17 ⟨rfl, _⟩
      simp
      exact Ans.of rfl
    · have ca' : 0 ≤ again := by omega
      simp [r3_25, ca, ca', hnum, r3_27, g17, g29, ba_self]
      refine Ans.next (hknown _) ?_
      rintro v h17 ⟨rfl, _⟩
      simp
      exact Ans.of rfl

end Go.Proofs.Ytmenfnapbggglaa
