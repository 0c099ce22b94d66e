/- The plain model of a view service: the views, promoting, settling. -/
namespace Go.Proofs.Ytefbpobeclkbhaa

structure Vw where
  num : Int
  pri : Int
  bak : Int
  deriving DecidableEq

def Vw.zero : Vw := ⟨0, 0, 0⟩

structure Sv where
  nodes : Int
  vs : List Vw
  st : Bool

def lastV (vs : List Vw) : Vw := vs.getLastD Vw.zero
def Sv.now (x : Sv) : Vw := lastV x.vs

@[simp] theorem lastV_nil : lastV [] = Vw.zero := rfl
@[simp] theorem lastV_snoc (us : List Vw) (v : Vw) : lastV (us ++ [v]) = v := by simp [lastV]

def prom (x : Sv) (p q : Int) : Int × Sv :=
  if x.st = false then (121, x)
  else if (p ≠ x.now.pri ∧ p ≠ x.now.bak) ∨ ¬ (1 ≤ p ∧ p ≤ x.nodes) then (120, x)
  else if (q ≠ 0 ∧ ¬ (1 ≤ q ∧ q ≤ x.nodes)) ∨ q = p then (120, x)
  else if 2147483647 ≤ x.now.num ∨ 400 < x.vs.length then (3, x)
  else (0, ⟨x.nodes, x.vs ++ [⟨x.now.num + 1, p, q⟩], false⟩)

def setl (x : Sv) (num node : Int) : Int × Sv :=
  if x.now.num = 0 ∨ num ≠ x.now.num ∨ node ≠ x.now.pri then (120, x) else (0, ⟨x.nodes, x.vs, true⟩)

/-- What holds of a service that a New began. -/
structure Good (x : Sv) : Prop where
  lo : 0 ≤ x.nodes
  hi : x.nodes ≤ 5
  len : x.vs.length ≤ 401
  st : x.vs = [] → x.st = false
  num : ∀ (k : Nat) (v : Vw), x.vs[k]? = some v → v.num = k + 1 ∧ 1 ≤ v.pri ∧ v.pri ≤ x.nodes ∧ 0 ≤ v.bak ∧ v.bak ≤ x.nodes ∧ v.pri ≠ v.bak
  chain : ∀ (k : Nat) (v w : Vw), x.vs[k]? = some v → x.vs[k + 1]? = some w → w.pri = v.pri ∨ w.pri = v.bak

def first (nodes : Int) : Sv := ⟨nodes, [⟨1, 1, if nodes = 1 then 0 else 2⟩], false⟩

theorem Good.zero : Good ⟨0, [], false⟩ := ⟨by simp, by simp, by simp, fun _ => rfl, by simp, by simp⟩

theorem Good.first {n : Int} (h1 : 1 ≤ n) (h2 : n ≤ 5) : Good (first n) := by
  refine ⟨by simp [Proofs.Ytefbpobeclkbhaa.first]; omega, h2, by simp [Proofs.Ytefbpobeclkbhaa.first], by simp [Proofs.Ytefbpobeclkbhaa.first], ?_, ?_⟩
  · intro k v h
    cases k with
    | succ k => simp [Proofs.Ytefbpobeclkbhaa.first] at h
    | zero =>
      simp [Proofs.Ytefbpobeclkbhaa.first] at h
      subst h
      simp only [Proofs.Ytefbpobeclkbhaa.first]
      split <;> simp <;> omega
  · intro k v w h1 h2
    simp [Proofs.Ytefbpobeclkbhaa.first] at h2

theorem now_last {x : Sv} (h : x.vs ≠ []) : ∃ us, x.vs = us ++ [x.now] := by
  refine ⟨x.vs.dropLast, ?_⟩
  unfold Sv.now lastV
  rw [List.getLastD_eq_getLast?, List.getLast?_eq_some_getLast h]
  exact (List.dropLast_concat_getLast h).symm

theorem Good.now {x : Sv} (g : Good x) (h : x.vs ≠ []) : x.now.num = x.vs.length ∧ 1 ≤ x.now.pri ∧ x.now.pri ≤ x.nodes ∧ 0 ≤ x.now.bak ∧ x.now.bak ≤ x.nodes ∧ x.now.pri ≠ x.now.bak := by
  obtain ⟨us, e⟩ := now_last h
  have hl : x.vs.length = us.length + 1 := by rw [e]; simp
  have := g.num us.length x.now (by rw [e]; simp)
  rw [hl]
  simpa using this

theorem now_nil {x : Sv} (h : x.vs = []) : x.now = Vw.zero := by unfold Sv.now; rw [h]; rfl

theorem Good.len_num {x : Sv} (g : Good x) : x.now.num = x.vs.length := by
  by_cases h : x.vs = []
  · rw [now_nil h, h]; rfl
  · exact (g.now h).1

theorem Good.setl {x : Sv} (g : Good x) (a b : Int) : Good (setl x a b).2 := by
  unfold Proofs.Ytefbpobeclkbhaa.setl
  split
  · exact g
  · rename_i h
    refine ⟨g.lo, g.hi, g.len, fun e => ?_, g.num, g.chain⟩
    simp at h
    exact absurd (show x.now.num = 0 by rw [now_nil (x := x) e]; rfl) h.1

theorem Good.prom {x : Sv} (g : Good x) (p q : Int) : Good (prom x p q).2 := by
  unfold Proofs.Ytefbpobeclkbhaa.prom
  split
  · exact g
  rename_i h0
  split
  · exact g
  rename_i h1
  split
  · exact g
  rename_i h2
  split
  · exact g
  rename_i h3
  have hne : x.vs ≠ [] := fun e => h0 (g.st e)
  have hn := g.now hne
  obtain ⟨us, e⟩ := now_last hne
  have hl : x.vs.length = us.length + 1 := by rw [e]; simp
  have g1 := g.lo
  refine ⟨g.lo, g.hi, by simp; omega, by simp, ?_, ?_⟩
  · intro k v h
    simp only at h
    by_cases hk : k < x.vs.length
    · rw [List.getElem?_append_left hk] at h
      exact g.num k v h
    · rw [List.getElem?_append_right (by omega)] at h
      have hk' : k = x.vs.length := by
        by_cases hz : k - x.vs.length = 0
        · omega
        · rw [List.getElem?_eq_none (by simp; omega)] at h; cases h
      subst hk'
      simp at h
      subst h
      simp only
      omega
  · intro k v w hv hw
    simp only at hv hw
    by_cases hk : k + 1 < x.vs.length
    · rw [List.getElem?_append_left hk] at hw
      rw [List.getElem?_append_left (by omega)] at hv
      exact g.chain k v w hv hw
    · have hk' : k + 1 = x.vs.length := by
        by_cases hz : k + 1 - x.vs.length = 0
        · omega
        · rw [List.getElem?_append_right (by omega), List.getElem?_eq_none (by simp; omega)] at hw; cases hw
      rw [List.getElem?_append_right (by omega), hk'] at hw
      rw [List.getElem?_append_left (by omega), e, List.getElem?_append_right (by omega)] at hv
      have : k - us.length = 0 := by omega
      rw [this] at hv
      simp at hv hw
      subst hv; subst hw
      simp only
      omega

end Go.Proofs.Ytefbpobeclkbhaa
