/- The plain model of a queue. -/
import Derived.Test.YtkkagpchcefidaaQd0
set_option linter.unusedSimpArgs false
set_option linter.unusedVariables false
namespace Go.Proofs.Ytkkagpchcefidaa

structure Qm where
  room : Nat
  items : List Itm
  last : Int

def fitsM (last stamp : Int) : Int := if 2147483647 < stamp then 3 else if stamp ≤ last then 100 else 0

def putM (q : Qm) (stamp : Int) (l : List Tgd) : Int × Qm :=
  if fitsM q.last stamp ≠ 0 then (fitsM q.last stamp, q)
  else if l = [] ∨ ∃ t ∈ l, t.tags = [] then (100, q)
  else if q.room ≤ q.items.length then (46, q)
  else (0, ⟨q.room, q.items ++ [⟨stamp, q.last, false, l, []⟩], stamp⟩)

def afterM (q : Qm) : Int := match q.items with
  | [] => q.last
  | x :: _ => x.after

def collM (q : Qm) (stamp : Int) (l : List Prt) : Int × Qm :=
  if fitsM q.last stamp ≠ 0 then (fitsM q.last stamp, q)
  else if l = [] then (100, q)
  else if q.room = 0 then (46, q)
  else (0, ⟨q.room, [⟨stamp, afterM q, true, [], l⟩], stamp⟩)

def nextM (q : Qm) (most : Int) : List Itm := q.items.take most.toNat

def tookM (q : Qm) (stamp : Int) : Nat × Qm := ((q.items.takeWhile fun x => decide (x.stamp ≤ stamp)).length, ⟨q.room, q.items.dropWhile fun x => decide (x.stamp ≤ stamp), q.last⟩)

/-- What holds of every queue. -/
structure Qm.Good (q : Qm) : Prop where
  room : q.room ≤ 32
  len : q.items.length ≤ q.room
  lo : 0 ≤ q.last
  hi : q.last ≤ 2147483647
  rise : q.items.Pairwise fun x y => x.stamp < y.stamp
  bnd : ∀ x ∈ q.items, x.stamp ≤ q.last

theorem Qm.Good.put {q : Qm} (g : q.Good) (stamp : Int) (l : List Tgd) : (putM q stamp l).2.Good := by
  unfold putM
  split
  · exact g
  rename_i h0
  split
  · exact g
  split
  · exact g
  rename_i h2
  have h3 : stamp ≤ 2147483647 ∧ q.last < stamp := by
    unfold fitsM at h0
    split at h0
    · simp at h0
    split at h0
    · simp at h0
    · omega
  have g1 := g.lo
  refine ⟨g.room, by simp; omega, by simp; omega, h3.1, ?_, ?_⟩
  · refine List.pairwise_append.2 ⟨g.rise, by simp, fun a ha b hb => ?_⟩
    simp at hb; subst hb
    have := g.bnd a ha
    show a.stamp < stamp
    omega
  · intro x hx
    rcases List.mem_append.1 hx with hx | hx
    · have := g.bnd x hx
      show x.stamp ≤ stamp
      omega
    · simp at hx; subst hx
      exact Int.le_refl _

theorem Qm.Good.coll {q : Qm} (g : q.Good) (stamp : Int) (l : List Prt) : (collM q stamp l).2.Good := by
  unfold collM
  split
  · exact g
  rename_i h0
  split
  · exact g
  split
  · exact g
  rename_i h2
  have h3 : stamp ≤ 2147483647 ∧ q.last < stamp := by
    unfold fitsM at h0
    split at h0
    · simp at h0
    split at h0
    · simp at h0
    · omega
  have g1 := g.lo
  exact ⟨g.room, by simp; omega, by simp; omega, h3.1, by simp, by simp⟩

theorem dropWhile_sub {α : Type} (p : α → Bool) (l : List α) : List.Sublist (l.dropWhile p) l := List.dropWhile_sublist p

theorem Qm.Good.took {q : Qm} (g : q.Good) (stamp : Int) : (tookM q stamp).2.Good := by
  have hs := dropWhile_sub (fun x : Itm => decide (x.stamp ≤ stamp)) q.items
  exact ⟨g.room, Nat.le_trans hs.length_le g.len, g.lo, g.hi, g.rise.sublist hs, fun x hx => g.bnd x (hs.subset hx)⟩

/-- Where stamps rise, what is above is what comes behind. -/
theorem filter_drop (s : Int) : ∀ (l : List Itm), l.Pairwise (fun x y => x.stamp < y.stamp) → l.filter (fun x => decide (s < x.stamp)) = l.dropWhile fun x => decide (x.stamp ≤ s)
  | [], _ => rfl
  | x :: l, h => by
    rw [List.pairwise_cons] at h
    by_cases c : x.stamp ≤ s
    · have h1 : ¬ s < x.stamp := by omega
      simp [List.filter_cons, List.dropWhile_cons, c, h1]
      exact filter_drop s l h.2
    · have h1 : s < x.stamp := by omega
      simp [List.filter_cons, List.dropWhile_cons, c, h1]
      intro y hy
      have := h.1 y hy
      omega

def Qm.new (room : Int) (begin' : Int) : Qm := ⟨room.toNat, [], begin'⟩
theorem Qm.Good.new {room b : Int} (h1 : 1 ≤ room) (h2 : room ≤ 32) (h3 : 0 ≤ b) (h4 : b ≤ 2147483647) : (Qm.new room b).Good :=
  ⟨by simp [Qm.new]; omega, by simp [Qm.new], h3, h4, by simp [Qm.new], by simp [Qm.new]⟩
theorem Qm.Good.zero : (⟨0, [], 0⟩ : Qm).Good := ⟨by simp, by simp, by simp, by simp, by simp, by simp⟩

end Go.Proofs.Ytkkagpchcefidaa
