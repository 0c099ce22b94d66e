/- One step of a script on the program's queue; the items of a queue are sound. -/
import Derived.Test.YtkkagpchcefidaaQb7
import Derived.Test.YtkkagpchcefidaaEv22
set_option linter.unusedSimpArgs false
set_option linter.unusedVariables false
namespace Go.Proofs.Ytkkagpchcefidaa
open Go.Ev

structure Stp where
  kind : Int
  on : Int
  stamp : Int
  chgs : List Tgd
  prts : List Prt

def StpC (ok : Nat → Prop) (h : H) (cs : List Value) (s : Stp) : Prop := ∃ v w, cs = [.int .i64 s.kind, .int .i64 s.on, .int .i64 s.stamp, v, w] ∧ SlR ok 5 (TgdC ok) h v s.chgs ∧ SlR ok 5 (PrtC ok) h w s.prts
def Stp.Short (s : Stp) : Prop := ShortT s.chgs ∧ ShortP s.prts

theorem StpC.imp {ok ok' : Nat → Prop} {h h' : H} {cs : List Value} {x : Stp} (s : StpC ok h cs x) (h1 : ∀ b, b < h.size → ok b → ok' b) (h3 : ∀ b cs, ok b → cel h b = some cs → cel h' b = some cs) : StpC ok' h' cs x := by
  obtain ⟨v, w, e, s1, s2⟩ := s
  exact ⟨v, w, e, SlTgd.imp s1 h1 h3, SlPrt.imp s2 h1 h3⟩

def stepM (q : Qm) (s : Stp) : Qm := if s.kind = 1 then (putM q s.stamp s.chgs).2 else if s.kind = 2 then (collM q s.stamp s.prts).2 else if s.kind = 4 then (tookM q s.stamp).2 else q

def StepPost (ok : Nat → Prop) (h : H) (b : Nat) (r : Option Nat) (q' : Qm) (u : Value) (h' : H) : Prop :=
  u = .tuple ⟨[]⟩ ∧ ∃ first', QAt ok h' b 0 r first' q' ∧ Kept h h' (b :: r.toList)

theorem step_spec {F : Nat} (hF : 17592186044440 ≤ F) {ok ok2 : Nat → Prop} {h : H} {b : Nat} {r : Option Nat} {first : Nat} {q : Qm} (s : QAt ok h b 0 r first q) (g : q.Good) {cs : List Value} {x : Stp}
    (sx : StpC ok2 h cs x) (hb2 : ¬ ok2 b) (hr2 : ∀ c, r = some c → ¬ ok2 c) (hs : x.Short) (hok : ∀ c, h.size ≤ c → ok c) :
    Ans (cf F 23 [.pointer (some ⟨b, 0, none⟩), .agg ⟨cs⟩] h) (StepPost ok h b r (stepM q x)) := by
  obtain ⟨F, rfl⟩ : ∃ G, F = G + 1 := ⟨F - 1, by omega⟩
  rw [cf_step (a := a23) rfl rfl (by simp [a23])]
  obtain ⟨v, w, rfl, s1, s2⟩ := sx
  have ov := s1.one
  have ow := s2.one
  simp only [oneCell] at ov ow
  have hbs := lt_of_get s.at'
  simp (disch := first | omega | (simp only [newRow_size, Array.size_setIfInBounds, Array.size_push]; done) | (simp only [newRow_size, Array.size_setIfInBounds, Array.size_push]; omega)) [a23, r23_0, r23_1, ov, ow, r23_2, eqT, eqF, neT, neF, ltT, ltF, leT, leF, nltT, nltF, nleT, nleF, nneT, nneF, List.getElem?_cons_zero, List.getElem?_cons_succ]
  have kR := rowKept h [.int .i64 x.kind, .int .i64 x.on, .int .i64 x.stamp, v, w] 0 []
  have sR := s.frame kR
  have t1 := SlTgd.imp s1 (ok' := ok2) (fun _ _ q => q) (keep_of kR.c (by simp))
  have t2 := SlPrt.imp s2 (ok' := ok2) (fun _ _ q => q) (keep_of kR.c (by simp))
  have hokR : ∀ c, (Ev.newRow h [.int .i64 x.kind, .int .i64 x.on, .int .i64 x.stamp, v, w] 0 []).size ≤ c → ok c := fun c hc => hok c (by simp at hc; omega)
  by_cases h1 : x.kind = 1
  · have hm : stepM q x = (putM q x.stamp x.chgs).2 := by unfold stepM; rw [if_pos h1]
    rw [hm]
    simp (disch := first | omega | (simp only [newRow_size, Array.size_setIfInBounds, Array.size_push]; done) | (simp only [newRow_size, Array.size_setIfInBounds, Array.size_push]; omega)) [h1, eqT, eqF, neT, neF, ltT, ltF, leT, leF, nltT, nltF, nleT, nleF, nneT, nneF, List.getElem?_cons_zero, List.getElem?_cons_succ, r23_3]
    rw [h1] at kR sR t1 t2 hokR
    refine Ans.next (Put_spec (F := F) (by omega) sR g t1 hb2 hs.1 hokR x.stamp) ?_
    rintro u h2 ⟨rfl, s3, k3⟩
    simp (disch := first | omega | (simp only [newRow_size, Array.size_setIfInBounds, Array.size_push]; done) | (simp only [newRow_size, Array.size_setIfInBounds, Array.size_push]; omega)) []
    exact Ans.of ⟨rfl, first, s3, kR.of_nil.trans k3⟩
  · by_cases h2 : x.kind = 2
    · have hm : stepM q x = (collM q x.stamp x.prts).2 := by unfold stepM; rw [if_neg h1, if_pos h2]
      rw [hm]
      simp (disch := first | omega | (simp only [newRow_size, Array.size_setIfInBounds, Array.size_push]; done) | (simp only [newRow_size, Array.size_setIfInBounds, Array.size_push]; omega)) [h2, eqT, eqF, neT, neF, ltT, ltF, leT, leF, nltT, nltF, nleT, nleF, nneT, nneF, List.getElem?_cons_zero, List.getElem?_cons_succ, r23_4, r23_5]
      rw [h2] at kR sR t1 t2 hokR
      refine Ans.next (Collapse_spec (F := F) (by omega) sR g t2 hb2 hr2 hs.2 hokR x.stamp) ?_
      rintro u h2 ⟨f2, rfl, s3, k3⟩
      simp (disch := first | omega | (simp only [newRow_size, Array.size_setIfInBounds, Array.size_push]; done) | (simp only [newRow_size, Array.size_setIfInBounds, Array.size_push]; omega)) []
      exact Ans.of ⟨rfl, f2, s3, kR.of_nil.trans k3⟩
    · by_cases h4 : x.kind = 4
      · have hm : stepM q x = (tookM q x.stamp).2 := by unfold stepM; rw [if_neg h1, if_neg h2, if_pos h4]
        rw [hm]
        simp (disch := first | omega | (simp only [newRow_size, Array.size_setIfInBounds, Array.size_push]; done) | (simp only [newRow_size, Array.size_setIfInBounds, Array.size_push]; omega)) [h4, eqT, eqF, neT, neF, ltT, ltF, leT, leF, nltT, nltF, nleT, nleF, nneT, nneF, List.getElem?_cons_zero, List.getElem?_cons_succ, r23_4, r23_6, r23_7]
        rw [h4] at kR sR
        refine Ans.next (Took_spec (F := F) (by omega) sR g x.stamp) ?_
        rintro u h2 ⟨rfl, f2, s3, k3⟩
        simp (disch := first | omega | (simp only [newRow_size, Array.size_setIfInBounds, Array.size_push]; done) | (simp only [newRow_size, Array.size_setIfInBounds, Array.size_push]; omega)) []
        exact Ans.of ⟨rfl, f2, s3, kR.of_nil.trans k3⟩
      · have hm : stepM q x = q := by unfold stepM; rw [if_neg h1, if_neg h2, if_neg h4]
        rw [hm]
        simp (disch := first | omega | (simp only [newRow_size, Array.size_setIfInBounds, Array.size_push]; done) | (simp only [newRow_size, Array.size_setIfInBounds, Array.size_push]; omega)) [h1, h2, h4, eqT, eqF, neT, neF, ltT, ltF, leT, leF, nltT, nltF, nleT, nleF, nneT, nneF, List.getElem?_cons_zero, List.getElem?_cons_succ, r23_4, r23_6]
        exact Ans.of ⟨rfl, first, sR, kR.of_nil⟩

end Go.Proofs.Ytkkagpchcefidaa
