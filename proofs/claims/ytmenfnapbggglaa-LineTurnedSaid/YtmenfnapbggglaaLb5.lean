/- short. -/
import Derived.Test.YtmenfnapbggglaaLb4
set_option linter.unusedSimpArgs false
set_option linter.unusedVariables false
namespace Go.Proofs.Ytmenfnapbggglaa
open Go.Ev

def cutM (m : Msg) : Msg := if 600 < slen m.b then ⟨m.fr, m.to, m.b.extract 0 600⟩ else m
def cut (l : List Msg) : List Msg := (l.take 300).map cutM

theorem cut_length (l : List Msg) : (cut l).length = min 300 l.length := by simp [cut]

theorem mcells_snoc (l : List Msg) (m : Msg) : mcells (l ++ [m]) = mcells l ++ m.cells := by simp [mcells]

theorem keeps_none {h h' : H} (k : Keeps h h' fun b => h.size ≤ b) : Keeps h h' fun _ => False := ⟨k.1, fun b hb _ => k.2 b hb (by omega)⟩

theorem short_loop (F0 : Nat) {c : CF} {v : Value} {l : List Msg} {h0 : H} (m0 : MsgsAt h0 v l) {ke : Nat → K} {kr : K} {Q : Value → H → Prop}
    (hk : ∀ acc h i, OwnRow h acc 3 (cut l).length (mcells (cut l)) h0.size → Keeps h0 h (fun _ => False) → Ans (ke 0 [(0, v), (3, acc), (4, i), (13, .bool false)] h []) Q) :
    ∀ (n i : Nat) (acc : Value) (h : H), i ≤ (cut l).length → 301 ≤ n + i → OwnRow h acc 3 i (mcells ((cut l).take i)) h0.size → Keeps h0 h (fun _ => False) →
      Ans (loopK F0 c [0, 3, 4] l14_9 ke kr n [(0, v), (3, acc), (4, .int .i64 i)] h []) Q := by
  have hcl := cut_length l
  intro n
  induction n with
  | zero => intro i acc h hi hn; omega
  | succ n ih =>
    intro i acc h hi hn o k
    have hlen : ∃ vb vn, v = .slice vb l.length vn ∧ (vb = none → l.length = 0 ∧ vn = 0) := by
      rcases m0 with ⟨rfl, rfl⟩ | ⟨b, o, c, cs, es, lv, an, h1, h2, h3, h4⟩
      · exact ⟨none, 0, rfl, fun _ => ⟨rfl, rfl⟩⟩
      · exact ⟨_, _, h1, nofun⟩
    rw [loopK_succ]
    generalize loopK F0 c [0, 3, 4] l14_9 ke kr n = again at ih ⊢
    simp [l14_9, r14_3]
    by_cases hil : i < (cut l).length
    · have hil' : i < l.length := by omega
      obtain ⟨b, o', cp, cs, es, lv, an, rfl, hb, hcs, hr⟩ := (m0.keeps k).read hil'
      have hbs := lt_of_get hb
      have h300 : (i : Int) < 300 := by omega
      simp [hil', h300, r14_4, hb, hcs, hr]
      have tail : ∀ h1 : H, hget h1 h.size = some (.cells (cutM l[i]).cells 0 true []) → Keeps h h1 (fun _ => False) →
          Ans (evC F0 c (.region r14_7 [0, 3, 4]) (evC F0 c (.region r14_8 [0, 3, 4]) (keepK [0, 3, 4] again) ke kr) (putK 1 (evC F0 c (.region r14_8 [0, 3, 4]) (keepK [0, 3, 4] again) ke kr) ke) kr
            [(0, .slice (some ⟨b, o', none⟩) l.length cp), (3, acc), (4, .int .i64 i), (5, .pointer (some ⟨h.size, 0, none⟩))] h1 []) Q := by
        intro h1 hg k1
        have hgs := lt_of_get hg
        have hks := k.1
        have o1 : OwnRow (Ev.newRow h1 (cutM l[i]).cells 3 []) acc 3 i (mcells ((cut l).take i)) h0.size :=
          o.keeps (k1.row _ _ _) (by simp)
        obtain ⟨h2, e2, s2, o2, k2⟩ := append1 (bytes := 32) (by simp; omega) o1 (cutM l[i]).cells rfl (by omega)
        have hw : IntKind.i64.wrap ((i : Int) + 1) = ((i + 1 : Nat) : Int) := by rw [wrap_in (by omega) (by omega)]; omega
        simp [Msg.cells] at hg e2
        simp [r14_7, r14_8, hg, srcOf, e2, hw]
        refine ih (i + 1) _ h2 hil (by omega) ?_ ?_
        · rw [List.take_add_one, List.getElem?_eq_getElem hil, Option.toList_some, mcells_snoc]
          have : (cut l)[i] = cutM l[i] := by simp [cut]
          rw [this]
          simpa using o2
        · exact keeps_none (((k.trans k1).weak (by simp)).trans ((((Keeps.refl h1 _).row _ _ _).trans (k2.weak fun _ q => q.1))))
      simp [r14_5]
      by_cases h600 : 600 < slen l[i].b
      · have h600' : (600 : Int) < (slen l[i].b : Int) := by omega
        have hle : 600 ≤ slen l[i].b := by omega
        simp [h600', r14_6, hle]
        refine tail _ ?_ ?_
        · simp [cutM, h600, Msg.cells]
        · repeat first | exact Keeps.refl _ _ | apply Keeps.row | refine Keeps.set_new ?_ (by omega) _
      · have h600' : ¬ (600 : Int) < (slen l[i].b : Int) := by omega
        simp [h600']
        refine tail _ ?_ ?_
        · simp [cutM, h600, Msg.cells]
        · repeat first | exact Keeps.refl _ _ | apply Keeps.row | refine Keeps.set_new ?_ (by omega) _
    · obtain ⟨vb, vn, rfl, hv⟩ := hlen
      have hie : i = (cut l).length := by omega
      have ho : OwnRow h acc 3 (cut l).length (mcells (cut l)) h0.size := by
        rw [hie, List.take_of_length_le (Nat.le_refl _)] at o; exact o
      cases vb with
      | none =>
        obtain ⟨h1, rfl⟩ := hv rfl
        have hi0 : i = 0 := by omega
        subst hi0
        have := hk acc h (.int .i64 0) ho k
        simp [h1] at this ⊢
        exact this
      | some a =>
        have := hk acc h (.int .i64 i) ho k
        by_cases h1 : i < l.length
        · have h300 : ¬ (i : Int) < 300 := by omega
          simp [h1, h300]
          exact this
        · simp [h1]
          exact this

theorem short_spec (F : Nat) (hF : 301 ≤ F) {v : Value} {l : List Msg} {h : H} (m : MsgsAt h v l) :
    Ans (cf (F + 1) 14 [v] h) fun r h' => OwnRow h' r 3 (cut l).length (mcells (cut l)) h.size ∧ Keeps h h' fun _ => False := by
  rw [cf_step (a := a14) rfl (by simp [a14])]
  simp [a14, r14_0, r14_1, r14_2]
  refine short_loop F m ?_ F 0 _ h (by simp) (by omega) (.inl ⟨rfl, rfl, rfl⟩) (Keeps.refl _ _)
  intro acc h' i o k
  simp [r14_10]
  exact Ans.of ⟨o, k⟩

end Go.Proofs.Ytmenfnapbggglaa
