/- The program's queue: Put, Collapse. -/
import Derived.Test.YtkkagpchcefidaaQb2
set_option linter.unusedSimpArgs false
set_option linter.unusedVariables false
namespace Go.Proofs.Ytkkagpchcefidaa
open Go.Ev

theorem QAt.lock {ok : Nat → Prop} {h : H} {b : Nat} {lk : Int} {r : Option Nat} {first : Nat} {q : Qm} (s : QAt ok h b lk r first q) (lk' : Int) :
    QAt ok (h.setIfInBounds b (.cells (qcells lk' r first q) 0 true [])) b lk' r first q ∧ Kept h (h.setIfInBounds b (.cells (qcells lk' r first q) 0 true [])) [b] := by
  have hbs := lt_of_get s.at'
  have k : Kept h (h.setIfInBounds b (.cells (qcells lk' r first q) 0 true [])) [b] := ⟨by simp, fun c hc hn => by
    rw [List.mem_singleton] at hn
    have n1 : ¬ b = c := fun e => hn e.symm
    simp [n1]⟩
  refine ⟨⟨by simp [hbs], s.no, ?_, s.okb⟩, k⟩
  intro c e
  obtain ⟨h1, h2, h3, h4, cs, h5, h6⟩ := s.yes c e
  exact ⟨h1, h2, h3, h4, cs, (k.get (lt_of_get h5) (by simpa using h3)).trans h5, h6.kc k.c (by simpa using s.okb)⟩

theorem unl {ok : Nat → Prop} {g : H} {b : Nat} {r : Option Nat} {first : Nat} {q : Qm} (s : QAt ok g b 1 r first q) :
    flipX 1 0 [.pointer (some ⟨b, 0, none⟩)] g = some (.tuple ⟨[]⟩, g.setIfInBounds b (.cells (qcells 0 r first q) 0 true [])) := by
  have hb := s.at'
  simp only [qcells] at hb
  simp [flipX, hb, qcells]

def PutPost (ok : Nat → Prop) (h : H) (b : Nat) (r : Option Nat) (c : Int) (q' : Qm) (first' : Nat) (u : Value) (h' : H) : Prop :=
  u = .int .i64 c ∧ QAt ok h' b 0 r first' q' ∧ Kept h h' (b :: r.toList)

theorem Put_spec {F : Nat} (hF : 17592186044430 ≤ F) {ok ok2 : Nat → Prop} {h : H} {b : Nat} {r : Option Nat} {first : Nat} {q : Qm} (s : QAt ok h b 0 r first q) (g : q.Good) {v : Value} {l : List Tgd}
    (sl : SlR ok2 5 (TgdC ok2) h v l) (hb2 : ¬ ok2 b) (hs : ShortT l) (hok : ∀ c, h.size ≤ c → ok c) (stamp : Int) :
    Ans (cf F 27 [.pointer (some ⟨b, 0, none⟩), .int .i64 stamp, v] h) (PutPost ok h b r (putM q stamp l).1 (putM q stamp l).2 first) := by
  obtain ⟨F, rfl⟩ : ∃ G, F = G + 1 := ⟨F - 1, by omega⟩
  rw [cf_step (a := a27) rfl rfl (by simp [a27])]
  obtain ⟨s1, k1⟩ := s.lock 1
  simp (disch := first | omega | (simp only [newRow_size, Array.size_setIfInBounds, Array.size_push]; done) | (simp only [newRow_size, Array.size_setIfInBounds, Array.size_push]; omega)) [a27, r27_0, r27_1, r27_2, evP_call, held_eq (F := F) (by omega) s, deferK_v, deferV_fn, eqT, eqF, neT, neF, ltT, ltF, leT, leF, nltT, nltF, nleT, nleF, nneT, nneF, List.getElem?_cons_zero, List.getElem?_cons_succ]
  have sl1 := SlTgd.imp sl (ok' := ok2) (fun _ _ q => q) (keep_of k1.c (by simpa using hb2))
  have y1 : (h.setIfInBounds b (.cells (qcells 1 r first q) 0 true [])).size = h.size := by simp
  generalize h.setIfInBounds b (.cells (qcells 1 r first q) 0 true []) = h1 at s1 k1 sl1 y1 ⊢
  have hl := sl1.len
  have fin : ∀ (c : Int) (q' : Qm) (h2 : H), putM q stamp l = (c, q') → QAt ok h2 b 1 r first q' → Kept h1 h2 (b :: r.toList) →
      Ans (some (Value.int .i64 c, h2.setIfInBounds b (.cells (qcells 0 r first q') 0 true []))) (PutPost ok h b r (putM q stamp l).1 (putM q stamp l).2 first) := by
    intro c q' h2 e s2 k2
    obtain ⟨s3, k3⟩ := s2.lock 0
    rw [e]
    refine Ans.of ⟨rfl, s3, ?_⟩
    exact (k1.weak (by simp)).trans (k2.trans (k3.weak (by simp)))
  simp (disch := first | omega | (simp only [newRow_size, Array.size_setIfInBounds, Array.size_push]; done) | (simp only [newRow_size, Array.size_setIfInBounds, Array.size_push]; omega)) [r27_3, fits_eq (F := F) (by omega) s1, eqT, eqF, neT, neF, ltT, ltF, leT, leF, nltT, nltF, nleT, nleF, nneT, nneF, List.getElem?_cons_zero, List.getElem?_cons_succ]
  by_cases hf : fitsM q.last stamp = 0
  · by_cases hz : l.length = 0
    · have hl0 : l = [] := List.length_eq_zero_iff.1 hz
      have hm : putM q stamp l = (100, q) := by unfold putM; rw [if_neg (by simp [hf]), if_pos (.inl hl0)]
      simp (disch := first | omega | (simp only [newRow_size, Array.size_setIfInBounds, Array.size_push]; done) | (simp only [newRow_size, Array.size_setIfInBounds, Array.size_push]; omega)) [r27_4, hf, hl, r27_5, r27_6, r27_7, eqT, eqF, neT, neF, ltT, ltF, leT, leF, nltT, nltF, nleT, nleF, nneT, nneF, List.getElem?_cons_zero, List.getElem?_cons_succ, unl s1]
      exact fin _ _ _ hm s1 (Kept.refl _ _)
    · simp (disch := first | omega | (simp only [newRow_size, Array.size_setIfInBounds, Array.size_push]; done) | (simp only [newRow_size, Array.size_setIfInBounds, Array.size_push]; omega)) [r27_4, hf, hl, eqT, eqF, neT, neF, ltT, ltF, leT, leF, nltT, nltF, nleT, nleF, nneT, nneF, List.getElem?_cons_zero, List.getElem?_cons_succ]
      refine Ans.next (contains_spec (F := F) (by omega) sl1 hs.1) ?_
      rintro u h2 ⟨rfl, k2⟩
      have s2 := s1.frame k2
      have y2 := k2.1
      cases hb : bare l with
      | true =>
        have hm : putM q stamp l = (100, q) := by unfold putM; rw [if_neg (by simp [hf]), if_pos (.inr ((bare_iff l).1 hb))]
        simp (disch := first | omega | (simp only [newRow_size, Array.size_setIfInBounds, Array.size_push]; done) | (simp only [newRow_size, Array.size_setIfInBounds, Array.size_push]; omega)) [r27_5, r27_6, r27_7, eqT, eqF, neT, neF, ltT, ltF, leT, leF, nltT, nltF, nleT, nleF, nneT, nneF, List.getElem?_cons_zero, List.getElem?_cons_succ, unl s2]
        exact fin _ _ _ hm s2 (k2.of_nil)
      | false =>
        have hnb : ¬ (l = [] ∨ ∃ t ∈ l, t.tags = []) := by
          rintro (e | e)
          · exact hz (by rw [e]; rfl)
          · rw [(bare_iff l).2 e] at hb; cases hb
        have hbE := s2.at'
        simp only [qcells] at hbE
        have hroom := g.len
        have hlr : lenV (rsl r q.room) = some (.int .i64 q.room) := by
          cases r with
          | none => simp [(s2.no rfl).1]
          | some r => simp
        simp (disch := first | omega | (simp only [newRow_size, Array.size_setIfInBounds, Array.size_push]; done) | (simp only [newRow_size, Array.size_setIfInBounds, Array.size_push]; omega)) [r27_6, hf, eqT, eqF, neT, neF, ltT, ltF, leT, leF, nltT, nltF, nleT, nleF, nneT, nneF, List.getElem?_cons_zero, List.getElem?_cons_succ, d27_8, hbE, hlr]
        by_cases hfull : q.items.length = q.room
        · have hm : putM q stamp l = (46, q) := by unfold putM; rw [if_neg (by simp [hf]), if_neg hnb, if_pos (by omega)]
          simp (disch := first | omega | (simp only [newRow_size, Array.size_setIfInBounds, Array.size_push]; done) | (simp only [newRow_size, Array.size_setIfInBounds, Array.size_push]; omega)) [hfull, r27_9, eqT, eqF, neT, neF, ltT, ltF, leT, leF, nltT, nltF, nleT, nleF, nneT, nneF, List.getElem?_cons_zero, List.getElem?_cons_succ, unl s2]
          exact fin _ _ _ hm s2 (k2.of_nil)
        · have hm : putM q stamp l = (0, ⟨q.room, q.items ++ [⟨stamp, q.last, false, l, []⟩], stamp⟩) := by unfold putM; rw [if_neg (by simp [hf]), if_neg hnb, if_neg (by omega)]
          obtain ⟨r, rfl⟩ : ∃ c, r = some c := by
            cases r with
            | none => have := (s2.no rfl).1; omega
            | some r => exact ⟨r, rfl⟩
          have hbs := lt_of_get hbE
          simp (disch := first | omega | (simp only [newRow_size, Array.size_setIfInBounds, Array.size_push]; done) | (simp only [newRow_size, Array.size_setIfInBounds, Array.size_push]; omega)) [d27_10, hbE, eqT, eqF, neT, neF, ltT, ltF, leT, leF, nltT, nltF, nleT, nleF, nneT, nneF, List.getElem?_cons_zero, List.getElem?_cons_succ]
          have sl2 := SlTgd.imp sl1 (ok' := ok2) (fun _ _ q => q) (keep_of k2.c (by simp))
          refine Ans.nextD (copiedChanges_spec (F := F) (by omega) sl2 hs) ?_
          rintro v3 h3 ⟨b3, k3⟩
          have y3 := k3.1
          have s3 := s2.frame k3
          have hb3 := s3.at'
          simp only [qcells] at hb3
          have hvc := b3.sl.vc
          have hvo := b3.sl.one
          simp only [vcells] at hvc
          simp (disch := first | omega | (simp only [newRow_size, Array.size_setIfInBounds, Array.size_push]; done) | (simp only [newRow_size, Array.size_setIfInBounds, Array.size_push]; omega)) [hb3, hvc, eqT, eqF, neT, neF, ltT, ltF, leT, leF, nltT, nltF, nleT, nleF, nneT, nneF, List.getElem?_cons_zero, List.getElem?_cons_succ]
          have hx : ItmC ok h3 [.int .i64 stamp, .int .i64 q.last, .bool false, v3, .slice none 0 0] ⟨stamp, q.last, false, l, []⟩ := by
            refine ⟨v3, .slice none 0 0, rfl, ?_, .inl ⟨.inl rfl, rfl⟩⟩
            refine SlTgd.imp b3.sl (fun c _ hc => ?_) (fun c cs _ e => e)
            have : h2.size ≤ c := hc
            exact hok c (by omega)
          refine Ans.nextD (put_spec (F := F) (x := ⟨stamp, q.last, false, l, []⟩) (v := v3) (w := .slice none 0 0) (by omega) s3 g (by have := g.len; omega) hx hvo rfl) ?_
          rintro u h4 ⟨rfl, s4, k4⟩
          simp (disch := first | omega | (simp only [newRow_size, Array.size_setIfInBounds, Array.size_push]; done) | (simp only [newRow_size, Array.size_setIfInBounds, Array.size_push]; omega)) [hbE, hb3, hvc, eqT, eqF, neT, neF, ltT, ltF, leT, leF, nltT, nltF, nleT, nleF, nneT, nneF, List.getElem?_cons_zero, List.getElem?_cons_succ, dk_go, chks_nil, chks_cons, chkA_nil, chkA_cons, chk1_no, chk1_yes, chkV_some, hAt_eq, hOf_some, hOf_none, sameV, sameL, sameCell, r27_11, unl s4]
          exact fin _ _ _ hm s4 ((k2.of_nil).trans ((k3.of_nil).trans (k4.weak (by simp))))
  · have hm : putM q stamp l = (fitsM q.last stamp, q) := by unfold putM; rw [if_pos hf]
    simp (disch := first | omega | (simp only [newRow_size, Array.size_setIfInBounds, Array.size_push]; done) | (simp only [newRow_size, Array.size_setIfInBounds, Array.size_push]; omega)) [r27_4, hf, r27_6, r27_7, eqT, eqF, neT, neF, ltT, ltF, leT, leF, nltT, nltF, nleT, nleF, nneT, nneF, List.getElem?_cons_zero, List.getElem?_cons_succ, unl s1]
    exact fin _ _ _ hm s1 (Kept.refl _ _)

end Go.Proofs.Ytkkagpchcefidaa
