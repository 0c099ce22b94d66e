/- Spoil of the program's line. -/
import Derived.Test.YtmenfnapbggglaaLb2
set_option linter.unusedSimpArgs false
set_option linter.unusedVariables false
namespace Go.Proofs.Ytmenfnapbggglaa
open Go.Ev

/-- A byte turned. -/
def xorB (x : UInt8) (turn : Int) : UInt8 := UInt8.ofNat (uxor .u8 x.toNat (IntKind.u8.wrap turn)).toNat

theorem xorB_int (x : UInt8) (turn : Int) : uxor .u8 x.toNat (IntKind.u8.wrap turn) = ((xorB x turn).toNat : Int) := by
  have := uxor_u8 x.toNat (IntKind.u8.wrap turn)
  unfold xorB
  rw [UInt8.toNat_ofNat']
  omega

def turnB (t : ByteArray) (i : Nat) (turn : Int) : ByteArray := ⟨⟨t.data.toList.set i (xorB (t.data.toList.getD i 0) turn)⟩⟩

theorem strOf_bytes : ∀ l : List UInt8, strOf (l.map fun b => .int .u8 b.toNat) = some l
  | [] => rfl
  | c :: l => by simp [strOf, strOf_bytes l]

set_option maxHeartbeats 2000000 in
theorem spoil_spec (F : Nat) {h : H} {b : Nat} {m : Option Nat} {fl : Flight} {last : Int} (l : LineAt h b m fl last) (n at' turn : Int) :
    Ans (cf (F + 2) 18 [.pointer (some ⟨b, 0, none⟩), .int .i64 n, .int .i64 at', .int .i64 turn] h) fun v h' =>
      match lk n fl 0 with
      | none => v = .int .i64 160 ∧ Keeps h h' fun _ => False
      | some (i, p) => if at' < 0 ∨ turn < 1 ∨ 255 < turn ∨ slen p.1.b = 0 then v = .int .i64 1 ∧ Keeps h h' fun _ => False
        else if p.2 = true then v = .int .i64 161 ∧ Keeps h h' fun _ => False
        else v = .int .i64 0 ∧ (Keeps h h' fun x => m = some x) ∧ LineAt h' b m (fl.set i (n, ⟨p.1.fr, p.1.to, turnB p.1.b (at' % slen p.1.b).toNat turn⟩, true)) last := by
  have hbs := lt_of_get l.line
  rw [cf_step (a := a18) rfl (by simp [a18])]
  simp [a18, r18_0, r18_1]
  refine Ans.next (look_spec F l n) ?_
  rintro v h1 ⟨rfl, k1⟩
  have l1 := l.keeps0 k1
  have hb := l1.line
  have hbs1 := lt_of_get hb
  have k1' := k1.1
  cases hlk : lk n fl 0 with
  | none =>
    simp [Msg.zero, Msg.val, Msg.cells, r18_2, r18_3]
    refine Ans.of ?_
    refine ⟨rfl, ?_⟩
    exact Keeps.set_new (Keeps.row k1 _ _ _) k1' _
  | some q =>
    obtain ⟨i, p⟩ := q
    obtain ⟨x, rfl⟩ := l.some_of hlk
    have hx0 := lt_of_get (l.yes x rfl).2
    obtain ⟨hx1, hx2⟩ := l1.yes x rfl
    have hxs := lt_of_get hx2
    have hf := findM_ents n fl 0
    rw [hlk] at hf
    simp [Msg.val, Msg.cells, r18_2, r18_4]
    by_cases c1 : at' < 0
    · simp [c1, r18_5]
      refine Ans.of ?_
      refine ⟨rfl, ?_⟩
      exact Keeps.set_new (Keeps.row k1 _ _ _) k1' _
    by_cases c2 : turn < 1
    · simp [c1, c2, r18_5]
      refine Ans.of ?_
      refine ⟨rfl, ?_⟩
      exact Keeps.set_new (Keeps.row k1 _ _ _) k1' _
    by_cases c3 : 255 < turn
    · simp [c1, c2, c3, r18_5]
      refine Ans.of ?_
      refine ⟨rfl, ?_⟩
      exact Keeps.set_new (Keeps.row k1 _ _ _) k1' _
    by_cases c4 : slen p.1.b = 0
    · have c4' : (((slen p.1.b : Nat) : Int) == 0) = true := by simp [c4]
      simp [c4', c1, c2, c3, c4, r18_5]
      refine Ans.of ?_
      refine ⟨rfl, ?_⟩
      exact Keeps.set_new (Keeps.row k1 _ _ _) k1' _
    have c4' : (((slen p.1.b : Nat) : Int) == 0) = false := by simp [c4]
    have c4z : ¬ ((slen p.1.b : Nat) : Int) = 0 := by omega
    simp [c4', c1, c2, c3, c4, r18_6, hb, hbs, hbs1, hxs, hx2, hf, ne_at hbs1, ne_at' hbs1, ne_at hxs, ne_at' hxs, pval, pcells, Msg.cells]
    cases c5 : p.2 with
    | true =>
      simp [r18_7]
      refine Ans.of ?_
      refine ⟨rfl, ?_⟩
      exact Keeps.set_new (Keeps.row k1 _ _ _) k1' _
    | false =>
      obtain ⟨j, hj⟩ : ∃ j : Nat, (at' % (slen p.1.b : Int)).toNat = j := ⟨_, rfl⟩
      have hjl : j < slen p.1.b := by
        have := Int.emod_lt_of_pos at' (show (0 : Int) < (slen p.1.b : Int) by omega)
        have := Int.emod_nonneg at' c4z
        omega
      have htm : at'.tmod (slen p.1.b : Int) = (j : Int) := by
        rw [Int.tmod_eq_emod_of_nonneg (by omega)]
        have := Int.emod_nonneg at' c4z
        omega
      rw [hj]
      obtain ⟨c, hc⟩ : ∃ c, p.1.b.data.toList.getD j 0 = c := ⟨_, rfl⟩
      have hdl : j < p.1.b.data.toList.length := by
        have : p.1.b.data.toList.length = slen p.1.b := by rw [Array.length_toList]; rfl
        omega
      have hget : (bytesOf p.1.b).drop j = .int .u8 c.toNat :: (bytesOf p.1.b).drop (j + 1) := by
        have h1 : p.1.b.data.toList.drop j = c :: p.1.b.data.toList.drop (j + 1) := by
          rw [List.drop_eq_getElem_cons hdl, ← hc, List.getD_eq_getElem?_getD, List.getElem?_eq_getElem hdl]; rfl
        unfold bytesOf
        rw [← List.map_drop, h1, List.map_cons, List.map_drop]
      have hjl' : j + 1 ≤ slen p.1.b := hjl
      have hstr : strOf ((bytesOf p.1.b).take j ++ .int .u8 (uxor .u8 c.toNat (IntKind.u8.wrap turn)) :: (bytesOf p.1.b).drop (j + 1)) = some (turnB p.1.b j turn).data.toList := by
        have : (bytesOf p.1.b).take j ++ .int .u8 (uxor .u8 c.toNat (IntKind.u8.wrap turn)) :: (bytesOf p.1.b).drop (j + 1) = (turnB p.1.b j turn).data.toList.map fun b => .int .u8 b.toNat := by
          unfold turnB bytesOf
          rw [xorB_int, hc]
          simp only [List.toList_toArray, List.set_eq_take_append_cons_drop, if_pos hdl, List.map_append, List.map_cons, List.map_take, List.map_drop]
        rw [this, strOf_bytes]
      have hlen : (bytesOf p.1.b).length = slen p.1.b := bytesOf_len _
      have hlen2 : ((bytesOf p.1.b).take j ++ .int .u8 (uxor .u8 c.toNat (IntKind.u8.wrap turn)) :: (bytesOf p.1.b).drop (j + 1)).length = slen p.1.b := by
        rw [List.length_append, List.length_cons, List.length_take, List.length_drop, hlen]; omega
      simp [r18_8, r18_9, c4, c4z, htm, hjl, hjl', hget]
      generalize (bytesOf p.1.b).take j ++ .int .u8 (uxor .u8 c.toNat (IntKind.u8.wrap turn)) :: (bytesOf p.1.b).drop (j + 1) = L at hstr hlen2 ⊢
      have htk : L.take (slen p.1.b) = L := List.take_of_length_le (by omega)
      simp [r18_10, c4, hlen2, htk, hstr, hb, hbs1, ne_at hbs1, ne_at' hbs1, ne_far hbs1, ne_far' hbs1, d18_11, hxs, hx2, hf, ne_at hxs, ne_at' hxs, ne_far hxs, ne_far' hxs, r18_12]
      refine Ans.of ?_
      refine ⟨rfl, ?_, ⟨?_, nofun, ?_⟩⟩
      · exact Keeps.set_may (Keeps.set_new (Keeps.set_new (Keeps.row (Keeps.set_new (Keeps.row (k1.weak (fun _ q => q.elim)) _ _ _) k1' _) _ _ _) (Nat.le_succ_of_le k1') _) k1' _) rfl _
      · simp [hbs, hbs1, hb, hx1, hx1.symm, ne_at hbs, ne_at' hbs, ne_at hbs1, ne_at' hbs1, ne_far hbs1, ne_far' hbs1]
      · intro y hy
        cases hy
        refine ⟨hx1, ?_⟩
        simp [hxs, hx0, ne_at hx0, ne_at' hx0, ne_at hxs, ne_at' hxs, ne_far hxs, ne_far' hxs, ents, lt_far hxs, pval, pcells, Msg.cells]

end Go.Proofs.Ytmenfnapbggglaa
