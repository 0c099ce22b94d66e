/- The program's queue: Next. -/
import Derived.Test.YtkkagpchcefidaaQb5
set_option linter.unusedSimpArgs false
set_option linter.unusedVariables false
namespace Go.Proofs.Ytkkagpchcefidaa
open Go.Ev

theorem SlR.sameV {α : Type} {ok : Nat → Prop} {w : Nat} {R : H → List Value → α → Prop} {h : H} {v : Value} {xs : List α} (s : SlR ok w R h v xs) : Ev.sameV v v = true := by
  rcases s with ⟨rfl | rfl, rfl⟩ | ⟨b, o, c, cs, rfl, _⟩ <;> simp [Ev.sameV, sameCell]

def NextPost (ok : Nat → Prop) (h : H) (b : Nat) (r : Option Nat) (first : Nat) (q : Qm) (most : Int) (u : Value) (h' : H) : Prop :=
  Bld (since h.size) 5 (ItmC (since h.size)) h' u (nextM q most) ∧ QAt ok h' b 0 r first q ∧ Kept h h' [b]

set_option maxHeartbeats 1000000 in
theorem Next_spec {F : Nat} (hF : 17592186044430 ≤ F) {ok : Nat → Prop} {h : H} {b : Nat} {r : Option Nat} {first : Nat} {q : Qm} (s : QAt ok h b 0 r first q) (g : q.Good) (hs : ShortI q.items) (most : Int) :
    Ans (cf F 20 [.pointer (some ⟨b, 0, none⟩), .int .i64 most] h) (NextPost ok h b r first q most) := by
  generalize hQ : NextPost ok h b r first q most = Q
  obtain ⟨F, rfl⟩ : ∃ G, F = G + 1 := ⟨F - 1, by omega⟩
  rw [cf_step (a := a20) rfl rfl (by simp [a20])]
  obtain ⟨s1, k1⟩ := s.lock 1
  simp (disch := first | omega | (simp only [newRow_size, Array.size_setIfInBounds, Array.size_push]; done) | (simp only [newRow_size, Array.size_setIfInBounds, Array.size_push]; omega)) [a20, r20_0, r20_1, r20_2, r20_3, r20_4, r20_5, evP_call, held_eq (F := F) (by omega) s, deferK_v, deferV_fn, eqT, eqF, neT, neF, ltT, ltF, leT, leF, nltT, nltF, nleT, nleF, nneT, nneF, List.getElem?_cons_zero, List.getElem?_cons_succ]
  have y1 : (h.setIfInBounds b (.cells (qcells 1 r first q) 0 true [])).size = h.size := by simp
  have hbs := lt_of_get s.at'
  generalize h.setIfInBounds b (.cells (qcells 1 r first q) 0 true []) = h1 at s1 k1 y1 ⊢
  have hgl := g.len
  have hgr := g.room
  obtain ⟨mm, hmm⟩ : ∃ mm : Int, (if (q.items.length : Int) < most then (q.items.length : Int) else most) = mm := ⟨_, rfl⟩
  have hN : (nextM q most).length = min most.toNat q.items.length := by simp [nextM]
  refine loop_rule (fun m e k => ∃ (i : Nat) (u : Value), m = q.items.length - i ∧ i ≤ (nextM q most).length ∧ e = [(0, .pointer (some ⟨b, 0, none⟩)), (1, .int .i64 most), (5, u), (6, .int .i64 i)] ∧ Kept h1 k [] ∧ Bld (since h.size) 5 (ItmC (since h.size)) k u (q.items.take i)) ?_ _ q.items.length _ _ (by omega) ⟨0, _, by omega, by omega, rfl, Kept.refl _ _, Bld.nil _ _ _ _⟩
  rintro m e k again ⟨i, u, rfl, hi, rfl, kk, bu⟩ ih
  have sk := s1.frame kk
  have yk := kk.1
  have hbE := sk.at'
  simp only [qcells] at hbE
  by_cases hlt : i < (nextM q most).length
  · obtain ⟨x, hx⟩ : ∃ x, q.items[i]? = some x := ⟨_, List.getElem?_eq_getElem (by omega)⟩
    obtain ⟨r, rfl⟩ : ∃ c, r = some c := by
      cases r with
      | none => have := (sk.no rfl).1; omega
      | some r => exact ⟨r, rfl⟩
    obtain ⟨z1, z2, z3, z4, cs, z5, z6⟩ := sk.yes r rfl
    have hat := at_eq (F := F) (by omega) sk g i (by omega)
    have hp : (first + i) % q.room < q.room := Nat.mod_lt _ z1
    have hcl := z6.1
    obtain ⟨vt, vp, e3, st, sp⟩ := z6.2 i x hx
    have hw1 : IntKind.i64.wrap ((i : Int) + 1) = ((i + 1 : Nat) : Int) := by rw [wrap_id (by omega) (by omega)]; rfl
    generalize (first + i) % q.room = p at hat hp e3
    have hto := st.one
    have hpo := sp.one
    simp only [oneCell] at hto hpo
    have hks := lt_of_get hbE
    have hlm : (i : Int) < mm := by rw [← hmm]; split <;> omega
    simp (disch := first | omega | (simp only [newRow_size, Array.size_setIfInBounds, Array.size_push]; done) | (simp only [newRow_size, Array.size_setIfInBounds, Array.size_push]; omega)) [l20_11, r20_6, hbE, hat, z5, e3, hmm, eqT, eqF, neT, neF, ltT, ltF, leT, leF, nltT, nltF, nleT, nleF, nneT, nneF, List.getElem?_cons_zero, List.getElem?_cons_succ, r20_7, hto, hpo, d20_8]
    have sl1 := SlTgd.imp st (ok' := ok) (fun _ _ q => q) (keep_of (rowKept k [.int .i64 x.stamp, .int .i64 x.after, .bool x.marker, vt, vp] 0 []).c (by simp))
    have sl2 := SlPrt.imp sp (ok' := ok) (fun _ _ q => q) (keep_of (rowKept k [.int .i64 x.stamp, .int .i64 x.after, .bool x.marker, vt, vp] 0 []).c (by simp))
    obtain ⟨sh1, sh2⟩ := hs.2 x (List.mem_of_getElem? hx)
    refine Ans.nextD (copiedChanges_spec (F := F) (by omega) sl1 sh1) ?_
    rintro v2 h2 ⟨b2, k2⟩
    have y2 := k2.1
    have g2 := fun c => k2.get (b := c)
    simp only [List.not_mem_nil, not_false_eq_true, forall_const, newRow_size] at g2 y2
    simp (disch := first | omega | (simp only [newRow_size, Array.size_setIfInBounds, Array.size_push]; done) | (simp only [newRow_size, Array.size_setIfInBounds, Array.size_push]; omega)) [g2, eqT, eqF, neT, neF, ltT, ltF, leT, leF, nltT, nltF, nleT, nleF, nneT, nneF, List.getElem?_cons_zero, List.getElem?_cons_succ]
    have sl3 := SlPrt.imp sl2 (ok' := ok) (fun _ _ q => q) (keep_of k2.c (by simp))
    refine Ans.nextD (copiedParts_spec (F := F) (by omega) sl3 sh2) ?_
    rintro v3 h3 ⟨b3, k3⟩
    have y3 := k3.1
    have g3 := fun c => k3.get (b := c)
    simp only [List.not_mem_nil, not_false_eq_true, forall_const] at g3
    have hto2 := b2.sl.one
    have hvc2 := b2.sl.vc
    have hto3 := b3.sl.one
    have hvc3 := b3.sl.vc
    have hsv := SlR.sameV sp
    simp only [oneCell] at hto2 hto3
    simp only [vcells] at hvc2 hvc3
    simp (disch := first | omega | (simp only [newRow_size, Array.size_setIfInBounds, Array.size_push]; done) | (simp only [newRow_size, Array.size_setIfInBounds, Array.size_push]; omega)) [g2, g3, hto2, hvc2, hto3, hvc3, eqT, eqF, neT, neF, ltT, ltF, leT, leF, nltT, nltF, nleT, nleF, nneT, nneF, List.getElem?_cons_zero, List.getElem?_cons_succ, dk_go, chks_nil, chks_cons, chkA_nil, chkA_cons, chk1_no, chk1_yes, chkV_some, hAt_eq, hOf_some, hOf_none, hsv, r20_9, srcOf]
    have kE : Kept k (Ev.newRow (Array.setIfInBounds h3 k.size (.cells [.int .i64 x.stamp, .int .i64 x.after, .bool x.marker, v2, v3] 0 true [])) [.int .i64 x.stamp, .int .i64 x.after, .bool x.marker, v2, v3] 5 []) [] := ⟨(by first | omega | (simp only [newRow_size, Array.size_setIfInBounds, Array.size_push]; done) | (simp only [newRow_size, Array.size_setIfInBounds, Array.size_push]; omega)), fun c hc _ => by
      simp (disch := first | omega | (simp only [newRow_size, Array.size_setIfInBounds, Array.size_push]; done) | (simp only [newRow_size, Array.size_setIfInBounds, Array.size_push]; omega)) [g2, g3]⟩
    have bE : Bld (since h.size) 5 (ItmC (since h.size)) (Ev.newRow (Array.setIfInBounds h3 k.size (.cells [.int .i64 x.stamp, .int .i64 x.after, .bool x.marker, v2, v3] 0 true [])) [.int .i64 x.stamp, .int .i64 x.after, .bool x.marker, v2, v3] 5 []) u (q.items.take i) :=
      bu.kept kE (by simp) (fun cs t _ q => ItmC.imp q (fun _ _ q => q) (keep_of kE.c (by simp)))
    have sE2 : SlR (since h.size) 5 (TgdC (since h.size)) (Ev.newRow (Array.setIfInBounds h3 k.size (.cells [.int .i64 x.stamp, .int .i64 x.after, .bool x.marker, v2, v3] 0 true [])) [.int .i64 x.stamp, .int .i64 x.after, .bool x.marker, v2, v3] 5 []) v2 x.chgs := by
      refine SlTgd.imp b2.sl (fun c _ hc => ?_) (fun c cs hc e => ?_)
      · have hc' : k.size + 1 ≤ c := by simpa using hc
        show h.size ≤ c
        omega
      · have hc' : k.size + 1 ≤ c := by simpa using hc
        have := cel_lt e
        rw [← e]
        exact cel_congr (by simp (disch := first | omega | (simp only [newRow_size, Array.size_setIfInBounds, Array.size_push]; done) | (simp only [newRow_size, Array.size_setIfInBounds, Array.size_push]; omega)) [g3])
    have sE3 : SlR (since h.size) 5 (PrtC (since h.size)) (Ev.newRow (Array.setIfInBounds h3 k.size (.cells [.int .i64 x.stamp, .int .i64 x.after, .bool x.marker, v2, v3] 0 true [])) [.int .i64 x.stamp, .int .i64 x.after, .bool x.marker, v2, v3] 5 []) v3 x.prts := by
      refine SlPrt.imp b3.sl (fun c _ hc => ?_) (fun c cs hc e => ?_)
      · have hc' : h2.size ≤ c := by simpa using hc
        show h.size ≤ c
        omega
      · have hc' : h2.size ≤ c := by simpa using hc
        have := cel_lt e
        rw [← e]
        exact cel_congr (by simp (disch := first | omega | (simp only [newRow_size, Array.size_setIfInBounds, Array.size_push]; done) | (simp only [newRow_size, Array.size_setIfInBounds, Array.size_push]; omega)) [])
    refine Ans.next (bE.app (x := x) (bytes := 72) rfl ?_ ?_ ?_ ?_) ?_
    · rw [List.length_take]; omega
    · show h.size ≤ _; exact (by first | omega | (simp only [newRow_size, Array.size_setIfInBounds, Array.size_push]; done) | (simp only [newRow_size, Array.size_setIfInBounds, Array.size_push]; omega))
    · exact fun h' k cs y _ q => ItmC.imp q (fun _ _ q => q) (keep_of k (by simp))
    · exact fun h' k => ⟨v2, v3, rfl, SlTgd.imp sE2 (fun _ _ q => q) (keep_of k (by simp)), SlPrt.imp sE3 (fun _ _ q => q) (keep_of k (by simp))⟩
    rintro u' h5 ⟨b5, k5, y5, g5, _⟩
    simp (disch := first | omega | (simp only [newRow_size, Array.size_setIfInBounds, Array.size_push]; done) | (simp only [newRow_size, Array.size_setIfInBounds, Array.size_push]; omega)) [r20_10, hw1, eqT, eqF, neT, neF, ltT, ltF, leT, leF, nltT, nltF, nleT, nleF, nneT, nneF, List.getElem?_cons_zero, List.getElem?_cons_succ]
    refine ih (q.items.length - (i + 1)) _ _ (by omega) ⟨i + 1, u', rfl, by omega, rfl, ?_, by rw [take_snoc hx]; exact b5⟩
    refine ⟨by have := kE.1; have := k5.1; omega, fun c hc _ => ?_⟩
    by_cases hch : c < h.size
    · exact (g5 c (by have := kE.1; omega) (bE.ne (by simp; omega))).trans ((kE.get (by omega) (by simp)).trans (kk.get hc (by simp)))
    · omega
  · have hlm : ¬ (i : Int) < mm := by
      rw [← hmm]; split <;> omega
    simp (disch := first | omega | (simp only [newRow_size, Array.size_setIfInBounds, Array.size_push]; done) | (simp only [newRow_size, Array.size_setIfInBounds, Array.size_push]; omega)) [l20_11, r20_6, hbE, hmm, eqT, eqF, neT, neF, ltT, ltF, leT, leF, nltT, nltF, nleT, nleF, nneT, nneF, List.getElem?_cons_zero, List.getElem?_cons_succ, r20_12, unl sk]
    obtain ⟨s3, k3⟩ := sk.lock 0
    have hin : q.items.take i = nextM q most := by
      have : i = (nextM q most).length := by omega
      rw [this, hN, nextM]
      rcases Nat.le_total most.toNat q.items.length with e | e
      · rw [Nat.min_eq_left e]
      · rw [Nat.min_eq_right e, List.take_of_length_le (Nat.le_refl _), List.take_of_length_le e]
    rw [hin] at bu
    subst hQ
    refine Ans.of ⟨?_, s3, (k1.trans (kk.of_nil.trans k3))⟩
    refine bu.kept k3 ?_ (fun cs t _ q => ItmC.imp q (fun _ _ q => q) (keep_of k3.c ?_))
    · simp; omega
    · simp; omega

end Go.Proofs.Ytkkagpchcefidaa
