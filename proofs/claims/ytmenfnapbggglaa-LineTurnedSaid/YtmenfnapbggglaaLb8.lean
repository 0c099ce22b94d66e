/- near. -/
import Derived.Test.YtmenfnapbggglaaLb7
set_option linter.unusedSimpArgs false
set_option linter.unusedVariables false
namespace Go.Proofs.Ytmenfnapbggglaa
open Go.Ev

/-- How many places differ. -/
def diffs : List UInt8 → List UInt8 → Nat
  | a :: l, b :: r => (if a = b then 0 else 1) + diffs l r
  | _, _ => 0

theorem diffs_le : ∀ (l r : List UInt8), diffs l r ≤ l.length
  | [], _ => by simp [diffs]
  | a :: l, [] => by simp [diffs]
  | a :: l, b :: r => by
    have := diffs_le l r
    simp only [diffs, List.length_cons]
    split <;> omega

theorem near_loop {F0 : Nat} {c : CF} {A B : Nat} {a b : Msg} {h : H} (ha : hget h A = some (.cells [.int .i64 a.fr, .int .i64 a.to, .string a.b] 0 true [])) (hb : hget h B = some (.cells [.int .i64 b.fr, .int .i64 b.to, .string b.b] 0 true []))
    (hl : slen a.b = slen b.b) (hmax : slen a.b ≤ 1000000000) {ke : Nat → K} {kr : K} {Q : Value → H → Prop}
    (hk : ∀ i, Ans (ke 0 [(2, .pointer (some ⟨A, 0, none⟩)), (3, .pointer (some ⟨B, 0, none⟩)), (5, .int .i64 (diffs a.b.data.toList b.b.data.toList)), (6, i), (32, .bool false)] h []) Q) :
    ∀ (n i cnt : Nat), i ≤ slen a.b → slen a.b < n + i → cnt ≤ i → cnt + diffs (a.b.data.toList.drop i) (b.b.data.toList.drop i) = diffs a.b.data.toList b.b.data.toList →
      Ans (loopK F0 c [2, 3, 5, 6] l22_9 ke kr n [(2, .pointer (some ⟨A, 0, none⟩)), (3, .pointer (some ⟨B, 0, none⟩)), (5, .int .i64 cnt), (6, .int .i64 i)] h []) Q := by
  have has := lt_of_get ha
  have hbs := lt_of_get hb
  have hla : a.b.data.toList.length = slen a.b := by rw [Array.length_toList]; rfl
  have hlb : b.b.data.toList.length = slen b.b := by rw [Array.length_toList]; rfl
  intro n
  induction n with
  | zero => intro i cnt hi hn; omega
  | succ n ih =>
    intro i cnt hi hn hc hd
    rw [loopK_succ]
    generalize loopK F0 c [2, 3, 5, 6] l22_9 ke kr n = again at ih ⊢
    simp [l22_9, r22_5, ha, has]
    by_cases hil : i < slen a.b
    · obtain ⟨x, hx⟩ : ∃ x, a.b.data[i]? = some x := ⟨a.b.data[i]'(by rw [← Array.length_toList]; omega), by rw [Array.getElem?_eq_getElem]⟩
      obtain ⟨y, hy⟩ : ∃ y, b.b.data[i]? = some y := ⟨b.b.data[i]'(by rw [← Array.length_toList]; omega), by rw [Array.getElem?_eq_getElem]⟩
      have hw : IntKind.i64.wrap ((i : Int) + 1) = ((i + 1 : Nat) : Int) := by rw [wrap_in (by omega) (by omega)]; omega
      have hwc : IntKind.i64.wrap ((cnt : Int) + 1) = ((cnt + 1 : Nat) : Int) := by rw [wrap_in (by omega) (by omega)]; omega
      have dx : a.b.data.toList.drop i = x :: a.b.data.toList.drop (i + 1) := by
        rw [List.drop_eq_getElem_cons (by omega)]
        congr 1
        have : a.b.data.toList[i]? = some x := by rw [Array.getElem?_toList]; exact hx
        rw [List.getElem?_eq_getElem (by omega)] at this
        exact Option.some.inj this
      have dy : b.b.data.toList.drop i = y :: b.b.data.toList.drop (i + 1) := by
        rw [List.drop_eq_getElem_cons (by omega)]
        congr 1
        have : b.b.data.toList[i]? = some y := by rw [Array.getElem?_toList]; exact hy
        rw [List.getElem?_eq_getElem (by omega)] at this
        exact Option.some.inj this
      rw [dx, dy, diffs] at hd
      simp only [hil, decide_true, condC_true, evC_skip, evC_seq, evC_block, evC_regionD, d22_6]
      simp only [evD_op, evOp, aeval, keep_cons, keep_nil, get_cons, Nat.reduceBEq, cond_true, cond_false, nextD_some, setD_some, rd, hget_eq, ha, hb, has, hbs]
      by_cases hxy : x = y
      · subst hxy
        simp [hx, hy, ha, hb, has, hbs, r22_8, hw]
        exact ih (i + 1) cnt hil (by omega) (by omega) (by simpa using hd)
      · have hxy' : (((x.toNat : Nat) : Int) != ((y.toNat : Nat) : Int)) = true := by
          simp only [bne_iff_ne, ne_eq, Int.natCast_inj]
          intro e
          exact hxy (UInt8.toNat_inj.1 e)
        simp [hx, hy, ha, hb, has, hbs, hxy', r22_7, r22_8, hw, hwc]
        exact ih (i + 1) (cnt + 1) hil (by omega) (by omega) (by rw [if_neg hxy] at hd; omega)
    · have hie : i = slen a.b := by omega
      have e : cnt = diffs a.b.data.toList b.b.data.toList := by
        rw [List.drop_of_length_le (by omega)] at hd
        simpa [diffs] using hd
      simp [hil]
      have := hk (.int .i64 i)
      rw [← e] at this
      exact this

theorem near_spec (F : Nat) (h : H) (a b : Msg) (h1 : a.fr = b.fr) (h2 : a.to = b.to) (h3 : slen a.b = slen b.b) (h4 : slen a.b ≤ F) (h5 : slen a.b ≤ 1000000000) (h6 : diffs a.b.data.toList b.b.data.toList ≤ 1) :
    Ans (cf (F + 1 + 1) 22 [a.val, b.val] h) fun r h' => r = .bool true ∧ Keeps h h' fun _ => False := by
  rw [cf_step (a := a22) rfl (by simp [a22])]
  generalize cf (F + 1) = c
  simp [a22, r22_0, r22_1, Msg.val, Msg.cells, h1, h2, h3, r22_3, r22_4]
  refine near_loop (a := a) (b := b) (by simp [h1, h2]) (by simp [h1, h2]) h3 h5 ?_ (F + 1) 0 0 (by omega) (by omega) (by omega) (by simp)
  intro i
  have h6' : (diffs a.b.data.toList b.b.data.toList : Int) ≤ 1 := by omega
  simp [r22_10, h6']
  exact Ans.of ⟨rfl, ((Keeps.refl h _).row _ _ _).row _ _ _⟩

end Go.Proofs.Ytmenfnapbggglaa
