/- The program's view service, as the evaluator's memory holds it; now, Now, Settled, Settle, Promote, New, All. -/
import Derived.Test.YtefbpobeclkbhaaVb0
import Derived.Test.YtefbpobeclkbhaaVm0
import Derived.Test.YtefbpobeclkbhaaEv19
set_option linter.unusedSimpArgs false
set_option linter.unusedVariables false
namespace Go.Proofs.Ytefbpobeclkbhaa
open Go.Ev

def Vw.cells (v : Vw) : List Value := [.int .i64 v.num, .int .i64 v.pri, .int .i64 v.bak]
def Vw.val (v : Vw) : Value := .agg ⟨v.cells⟩
def vcs (l : List Vw) : List Value := l.flatMap Vw.cells

theorem vcs_length : ∀ l : List Vw, (vcs l).length = 3 * l.length
  | [] => rfl
  | m :: l => by
    have := vcs_length l
    unfold vcs at this ⊢
    rw [List.flatMap_cons, List.length_append, this, List.length_cons]
    simp only [Vw.cells, List.length_cons, List.length_nil]
    omega

theorem vcs_append (a b : List Vw) : vcs (a ++ b) = vcs a ++ vcs b := by simp [vcs]

/-- A slice of views. -/
def sl (r : Option Nat) (n : Nat) : Value := match r with
  | none => .slice none 0 0
  | some r => .slice (some ⟨r, 0, none⟩) n n
@[simp] theorem sl_none (n : Nat) : sl none n = .slice none 0 0 := rfl
@[simp] theorem sl_some (r n : Nat) : sl (some r) n = .slice (some ⟨r, 0, none⟩) n n := rfl

def VsAt (h : H) (r : Option Nat) (vs : List Vw) : Prop := match r with
  | none => vs = []
  | some r => ∃ an, hget h r = some (.cells (vcs vs) 3 true an)

theorem VsAt.kept {h h' : H} {r : Option Nat} {vs : List Vw} {L : List Nat} (v : VsAt h r vs) (k : Kept h h' L) (hn : ∀ b, r = some b → b ∉ L) : VsAt h' r vs := by
  cases r with
  | none => exact v
  | some r =>
    obtain ⟨an, e⟩ := v
    exact ⟨an, (k.get (lt_of_get e) (hn r rfl)).trans e⟩

theorem VsAt.lt {h : H} {r : Nat} {vs : List Vw} (v : VsAt h (some r) vs) : r < h.size := by
  obtain ⟨an, e⟩ := v
  exact lt_of_get e

def scells (lk : Int) (r : Option Nat) (x : Sv) : List Value := [.int .i32 lk, .int .u32 0, .int .i64 x.nodes, sl r x.vs.length, .bool x.st]

/-- A service (lk: its lock). -/
structure SvAt (h : H) (b : Nat) (lk : Int) (r : Option Nat) (x : Sv) : Prop where
  at' : hget h b = some (.cells (scells lk r x) 0 true [])
  vs : VsAt h r x.vs
  ne : r ≠ some b

theorem SvAt.kept {h h' : H} {b : Nat} {lk : Int} {r : Option Nat} {x : Sv} {L : List Nat} (s : SvAt h b lk r x) (k : Kept h h' L) (hb : b ∉ L) (hn : ∀ b, r = some b → b ∉ L) : SvAt h' b lk r x :=
  ⟨(k.get (lt_of_get s.at') hb).trans s.at', s.vs.kept k hn, s.ne⟩

theorem vcs_last (us : List Vw) (v : Vw) : ((vcs (us ++ [v])).drop (us.length * 3)).take 3 = v.cells := by
  have := vcs_length us
  have e : vcs (us ++ [v]) = vcs us ++ v.cells := by simp [vcs]
  rw [e, List.drop_append, List.drop_of_length_le (by omega), List.nil_append, this, show us.length * 3 - 3 * us.length = 0 by omega, List.drop_zero]
  rfl

theorem now_spec {F : Nat} (hF : 1 ≤ F) {h : H} {b : Nat} {lk : Int} {r : Option Nat} {x : Sv} (s : SvAt h b lk r x) (hmax : x.vs.length ≤ 1000) :
    Ans (cf F 29 [.pointer (some ⟨b, 0, none⟩)] h) fun v h' => v = x.now.val ∧ Kept h h' [] := by
  obtain ⟨F, rfl⟩ : ∃ G, F = G + 1 := ⟨F - 1, by omega⟩
  have hb := s.at'
  have hbs := lt_of_get hb
  rw [cf_step (a := a29) rfl rfl (by simp [a29])]
  by_cases hvs : x.vs = []
  · have hlen : sl r x.vs.length = .slice none 0 0 ∨ ∃ q, sl r x.vs.length = .slice (some ⟨q, 0, none⟩) 0 0 := by
      cases r <;> simp [hvs]
    have hn : x.now = Vw.zero := now_nil hvs
    rcases hlen with e | ⟨q, e⟩
    · simp [a29, r29_0, r29_1, r29_2, d29_3, hb, hbs, scells, e, ne_at hbs, ne_at' hbs]
      refine Ans.of ⟨?_, ?_, ?_⟩
      · rw [hn]; rfl
      · simp
      · intro c hc _
        simp [hc, ne_at hc, ne_at' hc]
    · simp [a29, r29_0, r29_1, r29_2, d29_3, hb, hbs, scells, e, ne_at hbs, ne_at' hbs]
      refine Ans.of ⟨?_, ?_, ?_⟩
      · rw [hn]; rfl
      · simp
      · intro c hc _
        simp [hc, ne_at hc, ne_at' hc]
  · obtain ⟨us, e⟩ := now_last hvs
    obtain ⟨r, rfl⟩ : ∃ q, r = some q := by
      cases r with
      | none => exact absurd s.vs hvs
      | some q => exact ⟨q, rfl⟩
    obtain ⟨an, hr⟩ := s.vs
    have hrs := lt_of_get hr
    generalize x.now = v at e ⊢
    rw [e] at hr hmax
    have hl := vcs_length (us ++ [v])
    have hlast := vcs_last us v
    simp only [List.length_append, List.length_singleton] at hl hmax
    have hz : (((us.length : Int) + 1) == 0) = false := by simp; omega
    have hw : IntKind.i64.wrap (us.length : Int) = (us.length : Int) := by rw [IntKind.wrap_i64]; omega
    have hlt : (us.length : Int) < (us.length : Int) + 1 := by omega
    have hle : us.length * 3 + 3 ≤ (vcs (us ++ [v])).length := by omega
    simp only [Vw.cells] at hlast
    simp [a29, r29_0, r29_1, d29_3, scells, e, hb, hbs, hr, hrs, hz, hw, hlt, hle, hlast, ne_at hbs, ne_at' hbs, ne_at hrs, ne_at' hrs]
    refine Ans.of ⟨rfl, ?_, ?_⟩
    · simp
    · intro c hc _
      simp [hc, ne_at hc, ne_at' hc]

end Go.Proofs.Ytefbpobeclkbhaa
