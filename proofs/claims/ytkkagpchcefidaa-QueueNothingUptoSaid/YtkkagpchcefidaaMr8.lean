/- Several texts in one: Qb6, Qb7, Qr0, Qr1, Qr2, Qr3, Qr4, Qr5, Ev22, Dk0. -/
import Derived.Test.YtkkagpchcefidaaMr7

/- The program's queue: Next. -/
set_option linter.unusedSimpArgs false
set_option linter.unusedVariables false
namespace Go.Proofs.Ytkkagpchcefidaa
open Go.Ev

theorem SlR.sameV {α : Type} {ok : Nat → Prop} {w : Nat} {R : H → List Value → α → Prop} {h : H} {v : Value} {xs : List α} (s : SlR ok w R h v xs) : Ev.sameV v v = true := by
  rcases s with ⟨rfl | rfl, rfl⟩ | ⟨b, o, c, cs, rfl, _⟩ <;> simp [Ev.sameV, sameCell]

def NextPost (ok : Nat → Prop) (h : H) (b : Nat) (r : Option Nat) (first : Nat) (q : Qm) (most : Int) (u : Value) (h' : H) : Prop :=
  Bld (since h.size) 5 (ItmC (since h.size)) h' u (nextM q most) ∧ QAt ok h' b 0 r first q ∧ Kept h h' [b]

set_option maxHeartbeats 1000000 in
theorem Next_spec {F : Nat} (hF : 17592186044430 ≤ F) {ok : Nat → Prop} {h : H} {b : Nat} {r : Option Nat} {first : Nat} {q : Qm} (s : QAt ok h b 0 r first q) (g : q.Good) (hs : ShortI q.items) (most : Int) :
    Ans (cf F 20 [.pointer (some ⟨b, 0, none⟩), .int .i64 most] h) (NextPost ok h b r first q most) := by
  generalize hQ : NextPost ok h b r first q most = Q
  obtain ⟨F, rfl⟩ : ∃ G, F = G + 1 := ⟨F - 1, by omega⟩
  rw [cf_step (a := a20) rfl rfl (by simp [a20])]
  obtain ⟨s1, k1⟩ := s.lock 1
  simp (disch := first | omega | (simp only [newRow_size, Array.size_setIfInBounds, Array.size_push]; done) | (simp only [newRow_size, Array.size_setIfInBounds, Array.size_push]; omega)) [a20, r20_0, r20_1, r20_2, r20_3, r20_4, r20_5, evP_call, held_eq (F := F) (by omega) s, deferK_v, deferV_fn, eqT, eqF, neT, neF, ltT, ltF, leT, leF, nltT, nltF, nleT, nleF, nneT, nneF, List.getElem?_cons_zero, List.getElem?_cons_succ]
  have y1 : (h.setIfInBounds b (.cells (qcells 1 r first q) 0 true [])).size = h.size := by simp
  have hbs := lt_of_get s.at'
  generalize h.setIfInBounds b (.cells (qcells 1 r first q) 0 true []) = h1 at s1 k1 y1 ⊢
  have hgl := g.len
  have hgr := g.room
  obtain ⟨mm, hmm⟩ : ∃ mm : Int, (if (q.items.length : Int) < most then (q.items.length : Int) else most) = mm := ⟨_, rfl⟩
  have hN : (nextM q most).length = min most.toNat q.items.length := by simp [nextM]
  refine loop_rule (fun m e k => ∃ (i : Nat) (u : Value), m = q.items.length - i ∧ i ≤ (nextM q most).length ∧ e = [(0, .pointer (some ⟨b, 0, none⟩)), (1, .int .i64 most), (5, u), (6, .int .i64 i)] ∧ Kept h1 k [] ∧ Bld (since h.size) 5 (ItmC (since h.size)) k u (q.items.take i)) ?_ _ q.items.length _ _ (by omega) ⟨0, _, by omega, by omega, rfl, Kept.refl _ _, Bld.nil _ _ _ _⟩
  rintro m e k again ⟨i, u, rfl, hi, rfl, kk, bu⟩ ih
  have sk := s1.frame kk
  have yk := kk.1
  have hbE := sk.at'
  simp only [qcells] at hbE
  by_cases hlt : i < (nextM q most).length
  · obtain ⟨x, hx⟩ : ∃ x, q.items[i]? = some x := ⟨_, List.getElem?_eq_getElem (by omega)⟩
    obtain ⟨r, rfl⟩ : ∃ c, r = some c := by
      cases r with
      | none => have := (sk.no rfl).1; omega
      | some r => exact ⟨r, rfl⟩
    obtain ⟨z1, z2, z3, z4, cs, z5, z6⟩ := sk.yes r rfl
    have hat := at_eq (F := F) (by omega) sk g i (by omega)
    have hp : (first + i) % q.room < q.room := Nat.mod_lt _ z1
    have hcl := z6.1
    obtain ⟨vt, vp, e3, st, sp⟩ := z6.2 i x hx
    have hw1 : IntKind.i64.wrap ((i : Int) + 1) = ((i + 1 : Nat) : Int) := by rw [wrap_id (by omega) (by omega)]; rfl
    generalize (first + i) % q.room = p at hat hp e3
    have hto := st.one
    have hpo := sp.one
    simp only [oneCell] at hto hpo
    have hks := lt_of_get hbE
    have hlm : (i : Int) < mm := by rw [← hmm]; split <;> omega
    simp (disch := first | omega | (simp only [newRow_size, Array.size_setIfInBounds, Array.size_push]; done) | (simp only [newRow_size, Array.size_setIfInBounds, Array.size_push]; omega)) [l20_11, r20_6, hbE, hat, z5, e3, hmm, eqT, eqF, neT, neF, ltT, ltF, leT, leF, nltT, nltF, nleT, nleF, nneT, nneF, List.getElem?_cons_zero, List.getElem?_cons_succ, r20_7, hto, hpo, d20_8]
    have sl1 := SlTgd.imp st (ok' := ok) (fun _ _ q => q) (keep_of (rowKept k [.int .i64 x.stamp, .int .i64 x.after, .bool x.marker, vt, vp] 0 []).c (by simp))
    have sl2 := SlPrt.imp sp (ok' := ok) (fun _ _ q => q) (keep_of (rowKept k [.int .i64 x.stamp, .int .i64 x.after, .bool x.marker, vt, vp] 0 []).c (by simp))
    obtain ⟨sh1, sh2⟩ := hs.2 x (List.mem_of_getElem? hx)
    refine Ans.nextD (copiedChanges_spec (F := F) (by omega) sl1 sh1) ?_
    rintro v2 h2 ⟨b2, k2⟩
    have y2 := k2.1
    have g2 := fun c => k2.get (b := c)
    simp only [List.not_mem_nil, not_false_eq_true, forall_const, newRow_size] at g2 y2
    simp (disch := first | omega | (simp only [newRow_size, Array.size_setIfInBounds, Array.size_push]; done) | (simp only [newRow_size, Array.size_setIfInBounds, Array.size_push]; omega)) [g2, eqT, eqF, neT, neF, ltT, ltF, leT, leF, nltT, nltF, nleT, nleF, nneT, nneF, List.getElem?_cons_zero, List.getElem?_cons_succ]
    have sl3 := SlPrt.imp sl2 (ok' := ok) (fun _ _ q => q) (keep_of k2.c (by simp))
    refine Ans.nextD (copiedParts_spec (F := F) (by omega) sl3 sh2) ?_
    rintro v3 h3 ⟨b3, k3⟩
    have y3 := k3.1
    have g3 := fun c => k3.get (b := c)
    simp only [List.not_mem_nil, not_false_eq_true, forall_const] at g3
    have hto2 := b2.sl.one
    have hvc2 := b2.sl.vc
    have hto3 := b3.sl.one
    have hvc3 := b3.sl.vc
    have hsv := SlR.sameV sp
    simp only [oneCell] at hto2 hto3
    simp only [vcells] at hvc2 hvc3
    simp (disch := first | omega | (simp only [newRow_size, Array.size_setIfInBounds, Array.size_push]; done) | (simp only [newRow_size, Array.size_setIfInBounds, Array.size_push]; omega)) [g2, g3, hto2, hvc2, hto3, hvc3, eqT, eqF, neT, neF, ltT, ltF, leT, leF, nltT, nltF, nleT, nleF, nneT, nneF, List.getElem?_cons_zero, List.getElem?_cons_succ, dk_go, chks_nil, chks_cons, chkA_nil, chkA_cons, chk1_no, chk1_yes, chkV_some, hAt_eq, hOf_some, hOf_none, hsv, r20_9, srcOf]
    have kE : Kept k (Ev.newRow (Array.setIfInBounds h3 k.size (.cells [.int .i64 x.stamp, .int .i64 x.after, .bool x.marker, v2, v3] 0 true [])) [.int .i64 x.stamp, .int .i64 x.after, .bool x.marker, v2, v3] 5 []) [] := ⟨(by first | omega | (simp only [newRow_size, Array.size_setIfInBounds, Array.size_push]; done) | (simp only [newRow_size, Array.size_setIfInBounds, Array.size_push]; omega)), fun c hc _ => by
      simp (disch := first | omega | (simp only [newRow_size, Array.size_setIfInBounds, Array.size_push]; done) | (simp only [newRow_size, Array.size_setIfInBounds, Array.size_push]; omega)) [g2, g3]⟩
    have bE : Bld (since h.size) 5 (ItmC (since h.size)) (Ev.newRow (Array.setIfInBounds h3 k.size (.cells [.int .i64 x.stamp, .int .i64 x.after, .bool x.marker, v2, v3] 0 true [])) [.int .i64 x.stamp, .int .i64 x.after, .bool x.marker, v2, v3] 5 []) u (q.items.take i) :=
      bu.kept kE (by simp) (fun cs t _ q => ItmC.imp q (fun _ _ q => q) (keep_of kE.c (by simp)))
    have sE2 : SlR (since h.size) 5 (TgdC (since h.size)) (Ev.newRow (Array.setIfInBounds h3 k.size (.cells [.int .i64 x.stamp, .int .i64 x.after, .bool x.marker, v2, v3] 0 true [])) [.int .i64 x.stamp, .int .i64 x.after, .bool x.marker, v2, v3] 5 []) v2 x.chgs := by
      refine SlTgd.imp b2.sl (fun c _ hc => ?_) (fun c cs hc e => ?_)
      · have hc' : k.size + 1 ≤ c := by simpa using hc
        show h.size ≤ c
        omega
      · have hc' : k.size + 1 ≤ c := by simpa using hc
        have := cel_lt e
        rw [← e]
        exact cel_congr (by simp (disch := first | omega | (simp only [newRow_size, Array.size_setIfInBounds, Array.size_push]; done) | (simp only [newRow_size, Array.size_setIfInBounds, Array.size_push]; omega)) [g3])
    have sE3 : SlR (since h.size) 5 (PrtC (since h.size)) (Ev.newRow (Array.setIfInBounds h3 k.size (.cells [.int .i64 x.stamp, .int .i64 x.after, .bool x.marker, v2, v3] 0 true [])) [.int .i64 x.stamp, .int .i64 x.after, .bool x.marker, v2, v3] 5 []) v3 x.prts := by
      refine SlPrt.imp b3.sl (fun c _ hc => ?_) (fun c cs hc e => ?_)
      · have hc' : h2.size ≤ c := by simpa using hc
        show h.size ≤ c
        omega
      · have hc' : h2.size ≤ c := by simpa using hc
        have := cel_lt e
        rw [← e]
        exact cel_congr (by simp (disch := first | omega | (simp only [newRow_size, Array.size_setIfInBounds, Array.size_push]; done) | (simp only [newRow_size, Array.size_setIfInBounds, Array.size_push]; omega)) [])
    refine Ans.next (bE.app (x := x) (bytes := 72) rfl ?_ ?_ ?_ ?_) ?_
    · rw [List.length_take]; omega
    · show h.size ≤ _; exact (by first | omega | (simp only [newRow_size, Array.size_setIfInBounds, Array.size_push]; done) | (simp only [newRow_size, Array.size_setIfInBounds, Array.size_push]; omega))
    · exact fun h' k cs y _ q => ItmC.imp q (fun _ _ q => q) (keep_of k (by simp))
    · exact fun h' k => ⟨v2, v3, rfl, SlTgd.imp sE2 (fun _ _ q => q) (keep_of k (by simp)), SlPrt.imp sE3 (fun _ _ q => q) (keep_of k (by simp))⟩
    rintro u' h5 ⟨b5, k5, y5, g5, _⟩
    simp (disch := first | omega | (simp only [newRow_size, Array.size_setIfInBounds, Array.size_push]; done) | (simp only [newRow_size, Array.size_setIfInBounds, Array.size_push]; omega)) [r20_10, hw1, eqT, eqF, neT, neF, ltT, ltF, leT, leF, nltT, nltF, nleT, nleF, nneT, nneF, List.getElem?_cons_zero, List.getElem?_cons_succ]
    refine ih (q.items.length - (i + 1)) _ _ (by omega) ⟨i + 1, u', rfl, by omega, rfl, ?_, by rw [take_snoc hx]; exact b5⟩
    refine ⟨by have := kE.1; have := k5.1; omega, fun c hc _ => ?_⟩
    by_cases hch : c < h.size
    · exact (g5 c (by have := kE.1; omega) (bE.ne (by simp; omega))).trans ((kE.get (by omega) (by simp)).trans (kk.get hc (by simp)))
    · omega
  · have hlm : ¬ (i : Int) < mm := by
      rw [← hmm]; split <;> omega
    simp (disch := first | omega | (simp only [newRow_size, Array.size_setIfInBounds, Array.size_push]; done) | (simp only [newRow_size, Array.size_setIfInBounds, Array.size_push]; omega)) [l20_11, r20_6, hbE, hmm, eqT, eqF, neT, neF, ltT, ltF, leT, leF, nltT, nltF, nleT, nleF, nneT, nneF, List.getElem?_cons_zero, List.getElem?_cons_succ, r20_12, unl sk]
    obtain ⟨s3, k3⟩ := sk.lock 0
    have hin : q.items.take i = nextM q most := by
      have : i = (nextM q most).length := by omega
      rw [this, hN, nextM]
      rcases Nat.le_total most.toNat q.items.length with e | e
      · rw [Nat.min_eq_left e]
      · rw [Nat.min_eq_right e, List.take_of_length_le (Nat.le_refl _), List.take_of_length_le e]
    rw [hin] at bu
    subst hQ
    refine Ans.of ⟨?_, s3, (k1.trans (kk.of_nil.trans k3))⟩
    refine bu.kept k3 ?_ (fun cs t _ q => ItmC.imp q (fun _ _ q => q) (keep_of k3.c ?_))
    · simp; omega
    · simp; omega

end Go.Proofs.Ytkkagpchcefidaa

/- The answers that the document fixes: known. -/
set_option linter.unusedSimpArgs false
set_option linter.unusedVariables false
namespace Go.Proofs.Ytkkagpchcefidaa
open Go.Ev

theorem num_eq {F : Nat} (hF : 1 ≤ F) (h : H) (e : Int) : cf F 17 [.int .i64 e] h = some (.int .i64 e, h) := by
  obtain ⟨F, rfl⟩ : ∃ G, F = G + 1 := ⟨F - 1, by omega⟩
  rw [cf_step (a := a17) rfl rfl (by simp [a17])]
  simp (disch := first | omega | (simp only [newRow_size, Array.size_setIfInBounds, Array.size_push]; done) | (simp only [newRow_size, Array.size_setIfInBounds, Array.size_push]; omega)) [a17, r17_0, r17_1]

def tagOf (p : ByteArray) : Tgd := ⟨⟨1, p, ⟨#[]⟩, 0⟩, [1]⟩

theorem tag_spec {F : Nat} (hF : 1 ≤ F) (h : H) (p : ByteArray) : Ans (cf F 34 [.string p] h) fun v h' => SlR (since h.size) 5 (TgdC (since h.size)) h' v [tagOf p] ∧ Kept h h' [] := by
  obtain ⟨F, rfl⟩ : ∃ G, F = G + 1 := ⟨F - 1, by omega⟩
  rw [cf_step (a := a34) rfl rfl (by simp [a34])]
  simp (disch := first | omega | (simp only [newRow_size, Array.size_setIfInBounds, Array.size_push]; done) | (simp only [newRow_size, Array.size_setIfInBounds, Array.size_push]; omega)) [a34, r34_0, r34_1]
  refine Ans.of ⟨.inr ⟨h.size + 1, 0, 1, [.int .i64 1, .string p, .string ⟨#[]⟩, .int .i64 0, .slice (some ⟨h.size, 0, none⟩) 1 1], rfl, by simp, by show h.size ≤ h.size + 1; omega, cel_of (es := 5) (lv := true) (an := []) (by simp (disch := first | omega | (simp only [newRow_size, Array.size_setIfInBounds, Array.size_push]; done) | (simp only [newRow_size, Array.size_setIfInBounds, Array.size_push]; omega)) []), ?_⟩, (by first | omega | (simp only [newRow_size, Array.size_setIfInBounds, Array.size_push]; done) | (simp only [newRow_size, Array.size_setIfInBounds, Array.size_push]; omega)), fun c hc _ => by simp (disch := first | omega | (simp only [newRow_size, Array.size_setIfInBounds, Array.size_push]; done) | (simp only [newRow_size, Array.size_setIfInBounds, Array.size_push]; omega)) []⟩
  intro i x hx
  cases i with
  | succ i => simp at hx
  | zero =>
    simp at hx
    subst hx
    refine ⟨by simp, .slice (some ⟨h.size, 0, none⟩) 1 1, by simp [tagOf], .inr ⟨h.size, 0, 1, [.int .i64 1], rfl, by simp [tagOf], Nat.le_refl _, cel_of (es := 1) (lv := true) (an := []) (by simp (disch := first | omega | (simp only [newRow_size, Array.size_setIfInBounds, Array.size_push]; done) | (simp only [newRow_size, Array.size_setIfInBounds, Array.size_push]; omega)) []), ?_⟩⟩
    intro i x hx
    cases i with
    | succ i => simp [tagOf] at hx
    | zero =>
      simp [tagOf] at hx
      subst hx
      exact ⟨by simp, by simp [IntC]⟩

theorem tag_short (p : ByteArray) : ShortT [tagOf p] := ⟨by simp, by simp [tagOf]⟩

def q1 : Qm := ⟨1, [⟨7, 5, false, [tagOf str47_97], []⟩], 7⟩
theorem q1_eq : putM (Qm.new 1 5) 7 [tagOf str47_97] = (0, q1) := by simp [putM, fitsM, Qm.new, tagOf, q1]
theorem q1_put : putM q1 9 [tagOf str47_98] = (46, q1) := by simp [putM, fitsM, tagOf, q1]
theorem q1_next : nextM q1 9 = q1.items := by simp [nextM, q1]
theorem q1_took : tookM q1 7 = (1, ⟨1, [], 7⟩) := by simp [tookM, q1, List.takeWhile, List.dropWhile]
theorem q1_good : q1.Good := by
  have := (Qm.Good.new (room := 1) (b := 5) (by omega) (by omega) (by omega) (by omega)).put 7 [tagOf str47_97]
  rwa [q1_eq] at this

set_option maxHeartbeats 1000000 in
theorem known_spec {F : Nat} (hF : 17592186044440 ≤ F) (h : H) : Ans (cf F 18 [] h) fun u h' => u = .bool true ∧ Kept h h' [] := by
  generalize hQ : (fun (u : Value) (h' : H) => u = .bool true ∧ Kept h h' []) = Q
  obtain ⟨F, rfl⟩ : ∃ G, F = G + 1 := ⟨F - 1, by omega⟩
  rw [cf_step (a := a18) rfl rfl (by simp [a18])]
  simp (disch := first | omega | (simp only [newRow_size, Array.size_setIfInBounds, Array.size_push]; done) | (simp only [newRow_size, Array.size_setIfInBounds, Array.size_push]; omega)) [a18, r18_0, r18_1]
  refine Ans.next (New_spec (F := F) (by omega) h 1 5 (by omega) (by omega) (by omega) (by omega)) ?_
  rintro v h1 ⟨b, r, rfl, s, zb, zr, hb, hr, hbr, k1⟩
  have s1 := s (since h1.size) (by simp; omega) (by simp; omega)
  simp (disch := first | omega | (simp only [newRow_size, Array.size_setIfInBounds, Array.size_push]; done) | (simp only [newRow_size, Array.size_setIfInBounds, Array.size_push]; omega)) [r18_2, New_bad1 (F := F) (by omega) h1 0 (-1) (by omega), r18_3, num_eq (F := F) (by omega), eqT, eqF, neT, neF, ltT, ltF, leT, leF, nltT, nltF, nleT, nleF, nneT, nneF, List.getElem?_cons_zero, List.getElem?_cons_succ, r18_5]
  refine Ans.next (tag_spec (F := F) (by omega) h1 str47_97) ?_
  rintro v2 h2 ⟨t2, k2⟩
  have y2 := k2.1
  simp (disch := first | omega | (simp only [newRow_size, Array.size_setIfInBounds, Array.size_push]; done) | (simp only [newRow_size, Array.size_setIfInBounds, Array.size_push]; omega)) []
  refine Ans.next (Put_spec (F := F) (by omega) (s1.frame k2) (Qm.Good.new (by omega) (by omega) (by omega) (by omega)) t2 (by simp; omega) (tag_short _) (fun c hc => by show h1.size ≤ c; omega) 7) ?_
  rw [q1_eq]
  rintro v3 h3 ⟨rfl, s3, k3⟩
  have y3 := k3.1
  simp (disch := first | omega | (simp only [newRow_size, Array.size_setIfInBounds, Array.size_push]; done) | (simp only [newRow_size, Array.size_setIfInBounds, Array.size_push]; omega)) [r18_6]
  refine Ans.next (tag_spec (F := F) (by omega) h3 str47_98) ?_
  rintro v4 h4 ⟨t4, k4⟩
  have y4 := k4.1
  simp (disch := first | omega | (simp only [newRow_size, Array.size_setIfInBounds, Array.size_push]; done) | (simp only [newRow_size, Array.size_setIfInBounds, Array.size_push]; omega)) []
  refine Ans.next (Put_spec (F := F) (by omega) (s3.frame k4) q1_good t4 (by simp; omega) (tag_short _) (fun c hc => by show h1.size ≤ c; omega) 9) ?_
  rw [q1_put]
  rintro v5 h5 ⟨rfl, s5, k5⟩
  have y5 := k5.1
  simp (disch := first | omega | (simp only [newRow_size, Array.size_setIfInBounds, Array.size_push]; done) | (simp only [newRow_size, Array.size_setIfInBounds, Array.size_push]; omega)) [r18_7]
  refine Ans.next (Next_spec (F := F) (by omega) s5 q1_good ⟨by simp [q1], by simp [q1, tag_short, ShortP]⟩ 9) ?_
  rintro v6 h6 ⟨b6, s6, k6⟩
  rw [q1_next] at b6
  have hl := b6.sl.len
  obtain ⟨b', o, c, cs, es, lv, an, rfl, hk, hg, hle, hI⟩ := b6.sl.at' (i := 0) rfl
  obtain ⟨_, _, _, e0, e1, _⟩ := id_at hI hle
  have hlen : q1.items.length = 1 := rfl
  have y6 := k6.1
  simp only [Nat.zero_mul, Nat.add_zero] at e0 e1
  simp (disch := first | omega | (simp only [newRow_size, Array.size_setIfInBounds, Array.size_push]; done) | (simp only [newRow_size, Array.size_setIfInBounds, Array.size_push]; omega)) [r18_8, num_eq (F := F) (by omega), hl, hlen, hg, e0, e1, eqT, eqF, neT, neF, ltT, ltF, leT, leF, nltT, nltF, nleT, nleF, nneT, nneF, List.getElem?_cons_zero, List.getElem?_cons_succ]
  refine Ans.next (Took_spec (F := F) (by omega) s6 q1_good 7) ?_
  rw [q1_took]
  rintro v7 h7 ⟨rfl, f7, s7, k7⟩
  simp (disch := first | omega | (simp only [newRow_size, Array.size_setIfInBounds, Array.size_push]; done) | (simp only [newRow_size, Array.size_setIfInBounds, Array.size_push]; omega)) [Len_eq (F := F) (by omega) s7, Last_eq (F := F) (by omega) s7, eqT, eqF, neT, neF, ltT, ltF, leT, leF, nltT, nltF, nleT, nleF, nneT, nneF, List.getElem?_cons_zero, List.getElem?_cons_succ]
  have kA : Kept h1 h7 (b :: (some r).toList) := k2.of_nil.trans (k3.trans (k4.of_nil.trans (k5.trans ((k6.weak (by simp)).trans k7))))
  subst hQ
  refine Ans.of ⟨rfl, by have := k1.1; have := kA.1; omega, fun c hc _ => (kA.get (by have := k1.1; omega) ?_).trans (k1.get hc (by simp))⟩
  simp; omega

end Go.Proofs.Ytkkagpchcefidaa

/- The document's queue: New, follows. -/
set_option linter.unusedSimpArgs false
set_option linter.unusedVariables false
namespace Go.Proofs.Ytkkagpchcefidaa
open Go.Ev

def RefC (ok : Nat → Prop) (h : H) (cs : List Value) (q : Qm) : Prop := ∃ v, cs = [.int .i64 q.room, .int .i64 q.last, v] ∧ SlR ok 5 (ItmC ok) h v q.items

theorem RefC.imp {ok ok' : Nat → Prop} {h h' : H} {cs : List Value} {q : Qm} (s : RefC ok h cs q) (h1 : ∀ b, b < h.size → ok b → ok' b) (h3 : ∀ b cs, ok b → cel h b = some cs → cel h' b = some cs) : RefC ok' h' cs q := by
  obtain ⟨v, e, s⟩ := s
  exact ⟨v, e, SlItm.imp s h1 h3⟩

def newM (n m : Int) : Int × Qm := if n < 1 ∨ 32 < n then (1, ⟨0, [], 0⟩) else if m < 0 ∨ 2147483647 < m then (3, ⟨0, [], 0⟩) else (0, Qm.new n m)

def RefPost (ok : Nat → Prop) (h : H) (p : Int × Qm) (v : Value) (h' : H) : Prop := ∃ cs, v = .tuple ⟨[.agg ⟨cs⟩, .int .i64 p.1]⟩ ∧ RefC ok h' cs p.2 ∧ Kept h h' []

theorem refNew_spec {F : Nat} (hF : 1 ≤ F) (ok : Nat → Prop) (h : H) (n m : Int) : Ans (cf F 15 [.int .i64 n, .int .i64 m] h) (RefPost ok h (newM n m)) := by
  obtain ⟨F, rfl⟩ : ∃ G, F = G + 1 := ⟨F - 1, by omega⟩
  rw [cf_step (a := a15) rfl rfl (by simp [a15])]
  unfold newM
  by_cases h1 : n < 1 ∨ 32 < n
  · rw [if_pos h1]
    by_cases h2 : n < 1
    · simp (disch := first | omega | (simp only [newRow_size, Array.size_setIfInBounds, Array.size_push]; done) | (simp only [newRow_size, Array.size_setIfInBounds, Array.size_push]; omega)) [a15, r15_0, r15_1, h2, r15_2, eqT, eqF, neT, neF, ltT, ltF, leT, leF, nltT, nltF, nleT, nleF, nneT, nneF, List.getElem?_cons_zero, List.getElem?_cons_succ]
      exact Ans.of ⟨_, rfl, ⟨_, rfl, .inl ⟨.inl rfl, rfl⟩⟩, rowKept _ _ _ _⟩
    · simp (disch := first | omega | (simp only [newRow_size, Array.size_setIfInBounds, Array.size_push]; done) | (simp only [newRow_size, Array.size_setIfInBounds, Array.size_push]; omega)) [a15, r15_0, r15_1, h2, r15_2, eqT, eqF, neT, neF, ltT, ltF, leT, leF, nltT, nltF, nleT, nleF, nneT, nneF, List.getElem?_cons_zero, List.getElem?_cons_succ]
      exact Ans.of ⟨_, rfl, ⟨_, rfl, .inl ⟨.inl rfl, rfl⟩⟩, rowKept _ _ _ _⟩
  · rw [if_neg h1]
    by_cases h3 : m < 0 ∨ 2147483647 < m
    · rw [if_pos h3]
      by_cases h4 : m < 0
      · simp (disch := first | omega | (simp only [newRow_size, Array.size_setIfInBounds, Array.size_push]; done) | (simp only [newRow_size, Array.size_setIfInBounds, Array.size_push]; omega)) [a15, r15_0, r15_1, r15_3, h4, r15_4, eqT, eqF, neT, neF, ltT, ltF, leT, leF, nltT, nltF, nleT, nleF, nneT, nneF, List.getElem?_cons_zero, List.getElem?_cons_succ]
        exact Ans.of ⟨_, rfl, ⟨_, rfl, .inl ⟨.inl rfl, rfl⟩⟩, rowKept _ _ _ _⟩
      · simp (disch := first | omega | (simp only [newRow_size, Array.size_setIfInBounds, Array.size_push]; done) | (simp only [newRow_size, Array.size_setIfInBounds, Array.size_push]; omega)) [a15, r15_0, r15_1, r15_3, h4, r15_4, eqT, eqF, neT, neF, ltT, ltF, leT, leF, nltT, nltF, nleT, nleF, nneT, nneF, List.getElem?_cons_zero, List.getElem?_cons_succ]
        exact Ans.of ⟨_, rfl, ⟨_, rfl, .inl ⟨.inl rfl, rfl⟩⟩, rowKept _ _ _ _⟩
    · rw [if_neg h3]
      have hn : ((n.toNat : Nat) : Int) = n := by omega
      simp (disch := first | omega | (simp only [newRow_size, Array.size_setIfInBounds, Array.size_push]; done) | (simp only [newRow_size, Array.size_setIfInBounds, Array.size_push]; omega)) [a15, r15_0, r15_1, r15_3, r15_5, eqT, eqF, neT, neF, ltT, ltF, leT, leF, nltT, nltF, nleT, nleF, nneT, nneF, List.getElem?_cons_zero, List.getElem?_cons_succ]
      exact Ans.of ⟨_, rfl, ⟨_, by simp only [Qm.new, hn], .inl ⟨.inl rfl, rfl⟩⟩, rowKept _ _ _ _⟩

theorem follows_spec {F : Nat} (hF : 1 ≤ F) {h : H} {n last : Int} {v : Value} (hv : oneCell v = true) (stamp : Int) : Ans (cf F 58 [.agg ⟨[.int .i64 n, .int .i64 last, v]⟩, .int .i64 stamp] h) fun u h' => u = .int .i64 (fitsM last stamp) ∧ Kept h h' [] := by
  obtain ⟨F, rfl⟩ : ∃ G, F = G + 1 := ⟨F - 1, by omega⟩
  rw [cf_step (a := a58) rfl rfl (by simp [a58])]
  simp only [oneCell] at hv
  unfold fitsM
  by_cases c1 : 2147483647 < stamp
  · rw [if_pos c1]
    simp (disch := first | omega | (simp only [newRow_size, Array.size_setIfInBounds, Array.size_push]; done) | (simp only [newRow_size, Array.size_setIfInBounds, Array.size_push]; omega)) [a58, r58_0, r58_1, r58_2, hv, c1, eqT, eqF, neT, neF, ltT, ltF, leT, leF, nltT, nltF, nleT, nleF, nneT, nneF, List.getElem?_cons_zero, List.getElem?_cons_succ]
    exact Ans.of ⟨rfl, rowKept _ _ _ _⟩
  · rw [if_neg c1]
    by_cases c2 : stamp ≤ last
    · rw [if_pos c2]
      simp (disch := first | omega | (simp only [newRow_size, Array.size_setIfInBounds, Array.size_push]; done) | (simp only [newRow_size, Array.size_setIfInBounds, Array.size_push]; omega)) [a58, r58_0, r58_1, r58_3, r58_4, hv, c1, c2, eqT, eqF, neT, neF, ltT, ltF, leT, leF, nltT, nltF, nleT, nleF, nneT, nneF, List.getElem?_cons_zero, List.getElem?_cons_succ]
      exact Ans.of ⟨rfl, rowKept _ _ _ _⟩
    · rw [if_neg c2]
      simp (disch := first | omega | (simp only [newRow_size, Array.size_setIfInBounds, Array.size_push]; done) | (simp only [newRow_size, Array.size_setIfInBounds, Array.size_push]; omega)) [a58, r58_0, r58_1, r58_3, r58_5, hv, c1, c2, eqT, eqF, neT, neF, ltT, ltF, leT, leF, nltT, nltF, nleT, nleF, nneT, nneF, List.getElem?_cons_zero, List.getElem?_cons_succ]
      exact Ans.of ⟨rfl, rowKept _ _ _ _⟩

end Go.Proofs.Ytkkagpchcefidaa

/- The document's queue: Next. -/
set_option linter.unusedSimpArgs false
set_option linter.unusedVariables false
namespace Go.Proofs.Ytkkagpchcefidaa
open Go.Ev

set_option maxHeartbeats 1000000 in
theorem refNext_spec {F : Nat} (hF : 17592186044430 ≤ F) {ok : Nat → Prop} {h : H} {cs : List Value} {q : Qm} (s : RefC ok h cs q) (hl32 : q.items.length ≤ 32) (hs : ShortI q.items) (most : Int) :
    Ans (cf F 22 [.agg ⟨cs⟩, .int .i64 most] h) fun u h' => Bld (since h.size) 5 (ItmC (since h.size)) h' u (nextM q most) ∧ Kept h h' [] := by
  generalize hQ : (fun (u : Value) (h' : H) => Bld (since h.size) 5 (ItmC (since h.size)) h' u (nextM q most) ∧ Kept h h' []) = Q
  obtain ⟨F, rfl⟩ : ∃ G, F = G + 1 := ⟨F - 1, by omega⟩
  rw [cf_step (a := a22) rfl rfl (by simp [a22])]
  obtain ⟨v, rfl, s⟩ := s
  have ov := s.one
  simp only [oneCell] at ov
  have hl := s.len
  simp (disch := first | omega | (simp only [newRow_size, Array.size_setIfInBounds, Array.size_push]; done) | (simp only [newRow_size, Array.size_setIfInBounds, Array.size_push]; omega)) [a22, r22_0, r22_1, r22_2, ov, eqT, eqF, neT, neF, ltT, ltF, leT, leF, nltT, nltF, nleT, nleF, nneT, nneF, List.getElem?_cons_zero, List.getElem?_cons_succ]
  have hN : (nextM q most).length = min most.toNat q.items.length := by simp [nextM]
  refine loop_rule (fun m e k => ∃ (i : Nat) (u : Value), m = q.items.length - i ∧ i ≤ (nextM q most).length ∧ e = [(1, .int .i64 most), (2, .pointer (some ⟨h.size, 0, none⟩)), (5, u), (6, .int .i64 i)] ∧ Kept h k [] ∧ hget k h.size = some (.cells [.int .i64 q.room, .int .i64 q.last, v] 0 true []) ∧ Bld (fun c => h.size < c) 5 (ItmC (since h.size)) k u (q.items.take i)) ?_ _ q.items.length _ _ (by omega) ⟨0, _, by omega, by omega, rfl, rowKept _ _ _ _, by simp (disch := first | omega | (simp only [newRow_size, Array.size_setIfInBounds, Array.size_push]; done) | (simp only [newRow_size, Array.size_setIfInBounds, Array.size_push]; omega)) [], Bld.nil _ _ _ _⟩
  rintro m e k again ⟨i, u, rfl, hi, rfl, kk, hn, bu⟩ ih
  have yk := kk.1
  have hns := lt_of_get hn
  by_cases hlt : i < (nextM q most).length
  · obtain ⟨x, hx⟩ : ∃ x, q.items[i]? = some x := ⟨_, List.getElem?_eq_getElem (by omega)⟩
    have sg := SlItm.imp s (ok' := ok) (fun _ _ q => q) (keep_of kk.c (by simp))
    obtain ⟨b, o, c, cs, es, lv, an, rfl, hk, hg, hle, vt, vp, e3, st, sp⟩ := sg.at' hx
    have hw1 : IntKind.i64.wrap ((i : Int) + 1) = ((i + 1 : Nat) : Int) := by rw [wrap_id (by omega) (by omega)]; rfl
    have hto := st.one
    have hpo := sp.one
    simp only [oneCell] at hto hpo
    have hgs := lt_of_get hg
    have hlm : (i : Int) < most := by omega
    simp (disch := first | omega | (simp only [newRow_size, Array.size_setIfInBounds, Array.size_push]; done) | (simp only [newRow_size, Array.size_setIfInBounds, Array.size_push]; omega)) [l22_9, r22_3, hn, hl, eqT, eqF, neT, neF, ltT, ltF, leT, leF, nltT, nltF, nleT, nleF, nneT, nneF, List.getElem?_cons_zero, List.getElem?_cons_succ, r22_4, hg, e3, hto, hpo, r22_5]
    have kR := rowKept k [.int .i64 x.stamp, .int .i64 x.after, .bool x.marker, vt, vp] 0 []
    have sl1 := SlTgd.imp st (ok' := ok) (fun _ _ q => q) (keep_of kR.c (by simp))
    have sl2 := SlPrt.imp sp (ok' := ok) (fun _ _ q => q) (keep_of kR.c (by simp))
    obtain ⟨sh1, sh2⟩ := hs.2 x (List.mem_of_getElem? hx)
    refine Ans.next (changes_spec (F := F) (by omega) sl1 sh1) ?_
    rintro v2 h2 ⟨b2, k2⟩
    have y2 := k2.1
    have g2 := fun c => k2.get (b := c)
    simp only [List.not_mem_nil, not_false_eq_true, forall_const, newRow_size] at g2 y2
    have hto2 := b2.sl.one
    have hvc2 := b2.sl.vc
    simp only [oneCell] at hto2
    simp only [vcells] at hvc2
    simp (disch := first | omega | (simp only [newRow_size, Array.size_setIfInBounds, Array.size_push]; done) | (simp only [newRow_size, Array.size_setIfInBounds, Array.size_push]; omega)) [g2, hto2, hvc2, eqT, eqF, neT, neF, ltT, ltF, leT, leF, nltT, nltF, nleT, nleF, nneT, nneF, List.getElem?_cons_zero, List.getElem?_cons_succ, r22_6]
    have kE1 : Kept k (Array.setIfInBounds h2 k.size (.cells [.int .i64 x.stamp, .int .i64 x.after, .bool x.marker, v2, vp] 0 true [])) [] := ⟨(by first | omega | (simp only [newRow_size, Array.size_setIfInBounds, Array.size_push]; done) | (simp only [newRow_size, Array.size_setIfInBounds, Array.size_push]; omega)), fun c hc _ => by
      simp (disch := first | omega | (simp only [newRow_size, Array.size_setIfInBounds, Array.size_push]; done) | (simp only [newRow_size, Array.size_setIfInBounds, Array.size_push]; omega)) [g2]⟩
    have hE1 : hget (Array.setIfInBounds h2 k.size (.cells [.int .i64 x.stamp, .int .i64 x.after, .bool x.marker, v2, vp] 0 true [])) k.size = some (.cells [.int .i64 x.stamp, .int .i64 x.after, .bool x.marker, v2, vp] 0 true []) := by simp (disch := first | omega | (simp only [newRow_size, Array.size_setIfInBounds, Array.size_push]; done) | (simp only [newRow_size, Array.size_setIfInBounds, Array.size_push]; omega)) []
    have sl3 := SlPrt.imp sp (ok' := ok) (fun _ _ q => q) (keep_of kE1.c (by simp))
    have s2E : SlR (since h.size) 5 (TgdC (since h.size)) (Array.setIfInBounds h2 k.size (.cells [.int .i64 x.stamp, .int .i64 x.after, .bool x.marker, v2, vp] 0 true [])) v2 x.chgs := by
      refine SlTgd.imp b2.sl (fun c _ hc => ?_) (fun c cs hc e => ?_)
      · have hc' : k.size + 1 ≤ c := by simpa using hc
        show h.size ≤ c
        omega
      · have hc' : k.size + 1 ≤ c := by simpa using hc
        have := cel_lt e
        rw [← e]
        exact cel_congr (by simp (disch := first | omega | (simp only [newRow_size, Array.size_setIfInBounds, Array.size_push]; done) | (simp only [newRow_size, Array.size_setIfInBounds, Array.size_push]; omega)) [])
    have gE2 : ∀ c, k.size + 1 ≤ c → hget (Array.setIfInBounds h2 k.size (.cells [.int .i64 x.stamp, .int .i64 x.after, .bool x.marker, v2, vp] 0 true [])) c = hget h2 c := fun c hc => by
      rw [set_other (by omega)]
    have yE : (Array.setIfInBounds h2 k.size (.cells [.int .i64 x.stamp, .int .i64 x.after, .bool x.marker, v2, vp] 0 true [])).size = h2.size := by simp
    generalize Array.setIfInBounds h2 k.size (.cells [.int .i64 x.stamp, .int .i64 x.after, .bool x.marker, v2, vp] 0 true []) = E1 at kE1 hE1 sl3 s2E yE gE2 ⊢
    refine Ans.next (parts_spec (F := F) (by omega) sl3 sh2) ?_
    rintro v3 h3 ⟨b3, k3⟩
    have y3 := k3.1
    have g3 := fun c => k3.get (b := c)
    simp only [List.not_mem_nil, not_false_eq_true, forall_const] at g3
    have hto3 := b3.sl.one
    have hvc3 := b3.sl.vc
    simp only [oneCell] at hto3
    simp only [vcells] at hvc3
    simp (disch := first | omega | (simp only [newRow_size, Array.size_setIfInBounds, Array.size_push]; done) | (simp only [newRow_size, Array.size_setIfInBounds, Array.size_push]; omega)) [g3, hE1, hto2, hto3, hvc3, eqT, eqF, neT, neF, ltT, ltF, leT, leF, nltT, nltF, nleT, nleF, nneT, nneF, List.getElem?_cons_zero, List.getElem?_cons_succ, r22_7, srcOf]
    have gE1 := fun c => kE1.get (b := c)
    simp only [List.not_mem_nil, not_false_eq_true, forall_const] at gE1
    have kE : Kept k (Ev.newRow (Array.setIfInBounds h3 k.size (.cells [.int .i64 x.stamp, .int .i64 x.after, .bool x.marker, v2, v3] 0 true [])) [.int .i64 x.stamp, .int .i64 x.after, .bool x.marker, v2, v3] 5 []) [] := ⟨(by first | omega | (simp only [newRow_size, Array.size_setIfInBounds, Array.size_push]; done) | (simp only [newRow_size, Array.size_setIfInBounds, Array.size_push]; omega)), fun c hc _ => by
      simp (disch := first | omega | (simp only [newRow_size, Array.size_setIfInBounds, Array.size_push]; done) | (simp only [newRow_size, Array.size_setIfInBounds, Array.size_push]; omega)) [g3, gE1]⟩
    have bE : Bld (fun c => h.size < c) 5 (ItmC (since h.size)) (Ev.newRow (Array.setIfInBounds h3 k.size (.cells [.int .i64 x.stamp, .int .i64 x.after, .bool x.marker, v2, v3] 0 true [])) [.int .i64 x.stamp, .int .i64 x.after, .bool x.marker, v2, v3] 5 []) u (q.items.take i) :=
      bu.kept kE (by simp) (fun cs t _ q => ItmC.imp q (fun _ _ q => q) (keep_of kE.c (by simp)))
    have sE2 : SlR (since h.size) 5 (TgdC (since h.size)) (Ev.newRow (Array.setIfInBounds h3 k.size (.cells [.int .i64 x.stamp, .int .i64 x.after, .bool x.marker, v2, v3] 0 true [])) [.int .i64 x.stamp, .int .i64 x.after, .bool x.marker, v2, v3] 5 []) v2 x.chgs := by
      refine SlTgd.imp b2.sl (fun c _ hc => ?_) (fun c cs hc e => ?_)
      · have hc' : k.size + 1 ≤ c := by simpa using hc
        show h.size ≤ c
        omega
      · have hc' : k.size + 1 ≤ c := by simpa using hc
        have hlt2 := cel_lt e
        rw [← e]
        exact cel_congr (by simp (disch := first | omega | (simp only [newRow_size, Array.size_setIfInBounds, Array.size_push]; done) | (simp only [newRow_size, Array.size_setIfInBounds, Array.size_push]; omega)) [g3, gE2])
    have sE3 : SlR (since h.size) 5 (PrtC (since h.size)) (Ev.newRow (Array.setIfInBounds h3 k.size (.cells [.int .i64 x.stamp, .int .i64 x.after, .bool x.marker, v2, v3] 0 true [])) [.int .i64 x.stamp, .int .i64 x.after, .bool x.marker, v2, v3] 5 []) v3 x.prts := by
      refine SlPrt.imp b3.sl (fun c _ hc => ?_) (fun c cs hc e => ?_)
      · have hc' : E1.size ≤ c := by simpa using hc
        show h.size ≤ c
        omega
      · have hc' : E1.size ≤ c := by simpa using hc
        have := cel_lt e
        rw [← e]
        exact cel_congr (by simp (disch := first | omega | (simp only [newRow_size, Array.size_setIfInBounds, Array.size_push]; done) | (simp only [newRow_size, Array.size_setIfInBounds, Array.size_push]; omega)) [])
    refine Ans.next (bE.app (x := x) (bytes := 72) rfl ?_ ?_ ?_ ?_) ?_
    · rw [List.length_take]; omega
    · show h.size < _; exact (by first | omega | (simp only [newRow_size, Array.size_setIfInBounds, Array.size_push]; done) | (simp only [newRow_size, Array.size_setIfInBounds, Array.size_push]; omega))
    · exact fun h' k cs y _ q => ItmC.imp q (fun _ _ q => q) (keep_of k (by simp))
    · exact fun h' k => ⟨v2, v3, rfl, SlTgd.imp sE2 (fun _ _ q => q) (keep_of k (by simp)), SlPrt.imp sE3 (fun _ _ q => q) (keep_of k (by simp))⟩
    rintro u' h5 ⟨b5, k5, y5, g5, _⟩
    simp (disch := first | omega | (simp only [newRow_size, Array.size_setIfInBounds, Array.size_push]; done) | (simp only [newRow_size, Array.size_setIfInBounds, Array.size_push]; omega)) [r22_8, hw1, eqT, eqF, neT, neF, ltT, ltF, leT, leF, nltT, nltF, nleT, nleF, nneT, nneF, List.getElem?_cons_zero, List.getElem?_cons_succ]
    refine ih (q.items.length - (i + 1)) _ _ (by omega) ⟨i + 1, u', rfl, by omega, rfl, ?_, ?_, by rw [take_snoc hx]; exact b5⟩
    · refine ⟨by have := kE.1; have := k5.1; omega, fun c hc _ => ?_⟩
      exact (g5 c (by have := kE.1; omega) (bE.ne (by omega))).trans ((kE.get (by omega) (by simp)).trans (kk.get hc (by simp)))
    · exact (g5 h.size (by have := kE.1; omega) (bE.ne (by omega))).trans ((kE.get (by omega) (by simp)).trans hn)
  · have hin : q.items.take i = nextM q most := by
      have : i = (nextM q most).length := by omega
      rw [this, hN, nextM]
      rcases Nat.le_total most.toNat q.items.length with e | e
      · rw [Nat.min_eq_left e]
      · rw [Nat.min_eq_right e, List.take_of_length_le (Nat.le_refl _), List.take_of_length_le e]
    rw [hin] at bu
    have fin : Ans (some (u, k)) Q := by
      subst hQ
      refine Ans.of ⟨?_, kk⟩
      rcases bu with e | ⟨b, cs, an, e, hk, hb, hl, hi⟩
      · exact .inl e
      · exact .inr ⟨b, cs, an, e, Nat.le_of_lt hk, hb, hl, hi⟩
    by_cases c1 : i < q.items.length
    · have hlm : ¬ (i : Int) < most := by omega
      simp (disch := first | omega | (simp only [newRow_size, Array.size_setIfInBounds, Array.size_push]; done) | (simp only [newRow_size, Array.size_setIfInBounds, Array.size_push]; omega)) [l22_9, r22_3, hn, hl, eqT, eqF, neT, neF, ltT, ltF, leT, leF, nltT, nltF, nleT, nleF, nneT, nneF, List.getElem?_cons_zero, List.getElem?_cons_succ, r22_10]
      exact fin
    · simp (disch := first | omega | (simp only [newRow_size, Array.size_setIfInBounds, Array.size_push]; done) | (simp only [newRow_size, Array.size_setIfInBounds, Array.size_push]; omega)) [l22_9, r22_3, hn, hl, eqT, eqF, neT, neF, ltT, ltF, leT, leF, nltT, nltF, nleT, nleF, nneT, nneF, List.getElem?_cons_zero, List.getElem?_cons_succ, r22_10]
      exact fin

end Go.Proofs.Ytkkagpchcefidaa

/- The document's queue: Took. -/
set_option linter.unusedSimpArgs false
set_option linter.unusedVariables false
namespace Go.Proofs.Ytkkagpchcefidaa
open Go.Ev

def RefTook (ok : Nat → Prop) (h : H) (p : Nat × Qm) (v : Value) (h' : H) : Prop := ∃ cs, v = .tuple ⟨[.agg ⟨cs⟩, .int .i64 p.1]⟩ ∧ RefC ok h' cs p.2 ∧ Kept h h' []

theorem took_len (q : Qm) (stamp : Int) : (tookM q stamp).1 + (tookM q stamp).2.items.length = q.items.length := by
  have := congrArg List.length (List.takeWhile_append_dropWhile (p := fun x : Itm => decide (x.stamp ≤ stamp)) (l := q.items))
  rw [List.length_append] at this
  exact this

set_option maxHeartbeats 1000000 in
theorem refTook_spec {F : Nat} (hF : 1000 ≤ F) {ok : Nat → Prop} {h : H} {cs : List Value} {q : Qm} (s : RefC ok h cs q) (g : q.Good) (hok : ∀ c, h.size ≤ c → ok c) (stamp : Int) :
    Ans (cf F 41 [.agg ⟨cs⟩, .int .i64 stamp] h) (RefTook ok h (tookM q stamp)) := by
  generalize hQ : RefTook ok h (tookM q stamp) = Q
  obtain ⟨F, rfl⟩ : ∃ G, F = G + 1 := ⟨F - 1, by omega⟩
  rw [cf_step (a := a41) rfl rfl (by simp [a41])]
  obtain ⟨v, rfl, s⟩ := s
  have s := SlItm.imp s (ok' := fun c => ok c ∧ c < h.size) (fun b hb q => ⟨q, hb⟩) (fun _ _ _ e => e)
  have ov := s.one
  have vv := s.same
  simp only [oneCell] at ov
  have hl := s.len
  have hgl := g.len
  have hgr := g.room
  simp (disch := first | omega | (simp only [newRow_size, Array.size_setIfInBounds, Array.size_push]; done) | (simp only [newRow_size, Array.size_setIfInBounds, Array.size_push]; omega)) [a41, r41_0, r41_1, r41_2, ov, eqT, eqF, neT, neF, ltT, ltF, leT, leF, nltT, nltF, nleT, nleF, nneT, nneF, List.getElem?_cons_zero, List.getElem?_cons_succ]
  refine loop_rule (fun m e k => ∃ (i : Nat) (u : Value), m = q.items.length - i ∧ i ≤ q.items.length ∧ e = [(1, .int .i64 stamp), (2, .pointer (some ⟨h.size, 0, none⟩)), (4, .pointer (some ⟨h.size + 1, 0, none⟩)), (6, .pointer (some ⟨h.size + 2, 0, none⟩)), (7, .int .i64 i)] ∧ Kept h k [] ∧ hget k h.size = some (.cells [.int .i64 q.room, .int .i64 q.last, v] 0 true []) ∧ hget k (h.size + 1) = some (.cells [.int .i64 0, .int .i64 0, .slice none 0 0] 0 true []) ∧ hget k (h.size + 2) = some (.cells [.int .i64 q.room, .int .i64 q.last, u] 0 true []) ∧ Bld (fun c => h.size + 2 < c) 5 (ItmC (fun c => ok c ∧ c < h.size)) k u ((q.items.take i).filter fun x => decide (stamp < x.stamp))) ?_ _ q.items.length _ _ (by omega) ⟨0, _, by omega, by omega, rfl, ⟨(by first | omega | (simp only [newRow_size, Array.size_setIfInBounds, Array.size_push]; done) | (simp only [newRow_size, Array.size_setIfInBounds, Array.size_push]; omega)), fun c hc _ => by simp (disch := first | omega | (simp only [newRow_size, Array.size_setIfInBounds, Array.size_push]; done) | (simp only [newRow_size, Array.size_setIfInBounds, Array.size_push]; omega)) []⟩, by simp (disch := first | omega | (simp only [newRow_size, Array.size_setIfInBounds, Array.size_push]; done) | (simp only [newRow_size, Array.size_setIfInBounds, Array.size_push]; omega)) [], by simp (disch := first | omega | (simp only [newRow_size, Array.size_setIfInBounds, Array.size_push]; done) | (simp only [newRow_size, Array.size_setIfInBounds, Array.size_push]; omega)) [], by simp (disch := first | omega | (simp only [newRow_size, Array.size_setIfInBounds, Array.size_push]; done) | (simp only [newRow_size, Array.size_setIfInBounds, Array.size_push]; omega)) [], Bld.nil _ _ _ _⟩
  rintro m e k again ⟨i, u, rfl, hi, rfl, kk, hn0, hn1, hn2, bu⟩ ih
  have yk := kk.1
  have hns := lt_of_get hn2
  by_cases hlt : i < q.items.length
  · obtain ⟨x, hx⟩ : ∃ x, q.items[i]? = some x := ⟨_, List.getElem?_eq_getElem hlt⟩
    have sg := SlItm.imp s (ok' := fun c => ok c ∧ c < h.size) (fun _ _ q => q) (keep_of kk.c (by simp))
    obtain ⟨b, o, c, cs, es, lv, an, rfl, hk, hg, hle, hI⟩ := sg.at' hx
    obtain ⟨vt, vp, e5, e0, _, _, _, _, st, sp⟩ := id_at hI hle
    have hw1 : IntKind.i64.wrap ((i : Int) + 1) = ((i + 1 : Nat) : Int) := by rw [wrap_id (by omega) (by omega)]; rfl
    have hto := st.one
    have hpo := sp.one
    simp only [oneCell] at hto hpo
    have hgs := lt_of_get hg
    by_cases hst : stamp < x.stamp
    · simp (disch := first | omega | (simp only [newRow_size, Array.size_setIfInBounds, Array.size_push]; done) | (simp only [newRow_size, Array.size_setIfInBounds, Array.size_push]; omega)) [l41_7, r41_3, hn0, hl, eqT, eqF, neT, neF, ltT, ltF, leT, leF, nltT, nltF, nleT, nleF, nneT, nneF, List.getElem?_cons_zero, List.getElem?_cons_succ, r41_4, hg, e0, hst, d41_5, hn2, e5, hto, hpo, srcOf]
      have kR := rowKept k [.int .i64 x.stamp, .int .i64 x.after, .bool x.marker, vt, vp] 5 []
      have bR := bu.kept kR (by simp) (fun cs t _ q => ItmC.imp q (fun _ _ q => q) (keep_of kR.c (by simp)))
      refine Ans.nextE (bR.app (x := x) (bytes := 72) rfl ?_ ?_ ?_ ?_) ?_
      · have := List.length_filter_le (fun x : Itm => decide (stamp < x.stamp)) (q.items.take i)
        rw [List.length_take] at this
        omega
      · show h.size + 2 < _; exact (by first | omega | (simp only [newRow_size, Array.size_setIfInBounds, Array.size_push]; done) | (simp only [newRow_size, Array.size_setIfInBounds, Array.size_push]; omega))
      · exact fun h' k cs y _ q => ItmC.imp q (fun _ _ q => q) (keep_of k (by simp))
      · exact fun h' k3 => ⟨vt, vp, rfl, SlTgd.imp st (fun _ _ q => q) (keep_of (kR.c.trans k3) (by simp)), SlPrt.imp sp (fun _ _ q => q) (keep_of (kR.c.trans k3) (by simp))⟩
      rintro u' h5 ⟨b5, k5, y5, g5, _⟩
      have yR : (Ev.newRow k [.int .i64 x.stamp, .int .i64 x.after, .bool x.marker, vt, vp] 5 []).size = k.size + 1 := by simp
      have hz := k5.1
      have m0 := (g5 h.size (by omega) (bR.ne (by omega))).trans ((kR.get (by omega) (by simp)).trans hn0)
      have m1 := (g5 (h.size + 1) (by omega) (bR.ne (by omega))).trans ((kR.get (by omega) (by simp)).trans hn1)
      have m2 := (g5 (h.size + 2) (by omega) (bR.ne (by omega))).trans ((kR.get (by omega) (by simp)).trans hn2)
      have ou := b5.sl.one
      have vu := b5.sl.vc
      simp only [oneCell] at ou
      simp only [vcells] at vu
      simp (disch := first | omega | (simp only [newRow_size, Array.size_setIfInBounds, Array.size_push]; done) | (simp only [newRow_size, Array.size_setIfInBounds, Array.size_push]; omega)) [m2, ou, vu, eqT, eqF, neT, neF, ltT, ltF, leT, leF, nltT, nltF, nleT, nleF, nneT, nneF, List.getElem?_cons_zero, List.getElem?_cons_succ, r41_6, hw1]
      have k6 : Kept h5 (h5.setIfInBounds (h.size + 2) (.cells [.int .i64 q.room, .int .i64 q.last, u'] 0 true [])) [h.size + 2] := ⟨by simp, fun c hc hn => by
        rw [List.mem_singleton] at hn
        rw [set_other (fun e => hn e.symm)]⟩
      refine ih (q.items.length - (i + 1)) _ _ (by omega) ⟨i + 1, u', rfl, by omega, rfl, ?_, ?_, ?_, ?_, ?_⟩
      · refine ⟨by have := k6.1; omega, fun c hc _ => ?_⟩
        exact (k6.get (by omega) (by simp; omega)).trans ((g5 c (by omega) (bR.ne (by omega))).trans ((kR.get (by omega) (by simp)).trans (kk.get hc (by simp))))
      · exact (k6.get (by omega) (by simp)).trans m0
      · exact (k6.get (by omega) (by simp)).trans m1
      · simp (disch := first | omega | (simp only [newRow_size, Array.size_setIfInBounds, Array.size_push]; done) | (simp only [newRow_size, Array.size_setIfInBounds, Array.size_push]; omega)) []
      · rw [take_snoc hx, List.filter_append]
        have : ([x].filter fun x => decide (stamp < x.stamp)) = [x] := by simp [hst]
        rw [this]
        exact b5.kept k6 (by simp) (fun cs t ht e => e.imp (fun _ _ q => q) (keep_of k6.c (by
          intro c hc
          rw [List.mem_singleton] at hc
          subst hc
          exact fun q => absurd q.2 (by omega))))
    · simp (disch := first | omega | (simp only [newRow_size, Array.size_setIfInBounds, Array.size_push]; done) | (simp only [newRow_size, Array.size_setIfInBounds, Array.size_push]; omega)) [l41_7, r41_3, hn0, hl, eqT, eqF, neT, neF, ltT, ltF, leT, leF, nltT, nltF, nleT, nleF, nneT, nneF, List.getElem?_cons_zero, List.getElem?_cons_succ, r41_4, hg, e0, hst, r41_6, hw1]
      refine ih (q.items.length - (i + 1)) _ _ (by omega) ⟨i + 1, u, rfl, by omega, rfl, kk, hn0, hn1, hn2, ?_⟩
      rw [take_snoc hx, List.filter_append]
      simpa [hst] using bu
  · have hii : i = q.items.length := by omega
    rw [hii, List.take_length, filter_drop stamp q.items g.rise] at bu
    have hlu := bu.sl.len
    have hsu := SlR.sameV bu.sl
    have hsv := SlR.sameV s
    have ou := bu.sl.one
    have vu := bu.sl.vc
    have htl := took_len q stamp
    have hdl : (List.dropWhile (fun x : Itm => decide (x.stamp ≤ stamp)) q.items).length = (tookM q stamp).2.items.length := rfl
    have hw : IntKind.i64.wrap ((q.items.length : Int) - ((tookM q stamp).2.items.length : Int)) = (((tookM q stamp).1 : Nat) : Int) := by rw [wrap_id (by omega) (by omega)]; omega
    rw [hdl] at hlu
    simp only [oneCell] at ou
    simp only [vcells] at vu
    simp (disch := first | omega | (simp only [newRow_size, Array.size_setIfInBounds, Array.size_push]; done) | (simp only [newRow_size, Array.size_setIfInBounds, Array.size_push]; omega)) [l41_7, r41_3, hn0, hl, eqT, eqF, neT, neF, ltT, ltF, leT, leF, nltT, nltF, nleT, nleF, nneT, nneF, List.getElem?_cons_zero, List.getElem?_cons_succ, d41_8, hn1, hn2, hlu, hw, ou, vu, dk_go, chks_nil, chks_cons, chkA_nil, chkA_cons, chk1_no, chk1_yes, chkV_some, hAt_eq, hOf_some, hOf_none, hsu, hsv]
    have k6 : Kept k (k.setIfInBounds (h.size + 1) (.cells [.int .i64 q.room, .int .i64 q.last, u] 0 true [])) [h.size + 1] := ⟨by simp, fun c hc hn => by
      rw [List.mem_singleton] at hn
      rw [set_other (fun e => hn e.symm)]⟩
    subst hQ
    refine Ans.of ⟨[.int .i64 q.room, .int .i64 q.last, u], rfl, ⟨u, rfl, ?_⟩, by have := k6.1; omega, fun c hc _ => (k6.get (by omega) (by simp; omega)).trans (kk.get hc (by simp))⟩
    refine SlR.imp bu.sl (fun c _ hc => hok c (by have hc' : h.size + 2 < c := hc; omega)) (fun cs t _ e => e.imp (fun _ _ q => q.1) (keep_of k6.c ?_)) (keep_of k6.c ?_)
    · intro c hc
      rw [List.mem_singleton] at hc
      subst hc
      exact fun q => absurd q.2 (by omega)
    · simp

end Go.Proofs.Ytkkagpchcefidaa

/- The document's queue: Collapse. -/
set_option linter.unusedSimpArgs false
set_option linter.unusedVariables false
namespace Go.Proofs.Ytkkagpchcefidaa
open Go.Ev

set_option maxHeartbeats 1000000 in
theorem refCollapse_spec {F : Nat} (hF : 17592186044430 ≤ F) {ok ok2 : Nat → Prop} {h : H} {cs : List Value} {q : Qm} (s : RefC ok h cs q) (hok : ∀ c, h.size ≤ c → ok c) {v : Value} {l : List Prt}
    (sl : SlR ok2 5 (PrtC ok2) h v l) (hs : ShortP l) (stamp : Int) :
    Ans (cf F 38 [.agg ⟨cs⟩, .int .i64 stamp, v] h) (RefPost ok h (collM q stamp l)) := by
  generalize hQ : RefPost ok h (collM q stamp l) = Q
  obtain ⟨F, rfl⟩ : ∃ G, F = G + 1 := ⟨F - 1, by omega⟩
  rw [cf_step (a := a38) rfl rfl (by simp [a38])]
  obtain ⟨w, rfl, s⟩ := s
  have s := SlItm.imp s (ok' := fun c => ok c ∧ c < h.size) (fun b hb q => ⟨q, hb⟩) (fun _ _ _ e => e)
  have ow := s.one
  have ow0 := ow
  have vw := s.vc
  have hl := s.len
  have hlv := sl.len
  simp only [oneCell] at ow
  simp only [vcells] at vw
  simp (disch := first | omega | (simp only [newRow_size, Array.size_setIfInBounds, Array.size_push]; done) | (simp only [newRow_size, Array.size_setIfInBounds, Array.size_push]; omega)) [a38, r38_0, r38_1, ow, eqT, eqF, neT, neF, ltT, ltF, leT, leF, nltT, nltF, nleT, nleF, nneT, nneF, List.getElem?_cons_zero, List.getElem?_cons_succ]
  have kE : Kept h (Ev.newRow (Ev.newRow h [.int .i64 q.room, .int .i64 q.last, w] 0 []) [.int .i64 0, .int .i64 0, .slice none 0 0] 0 []) [] := ⟨(by first | omega | (simp only [newRow_size, Array.size_setIfInBounds, Array.size_push]; done) | (simp only [newRow_size, Array.size_setIfInBounds, Array.size_push]; omega)), fun c hc _ => by simp (disch := first | omega | (simp only [newRow_size, Array.size_setIfInBounds, Array.size_push]; done) | (simp only [newRow_size, Array.size_setIfInBounds, Array.size_push]; omega)) []⟩
  have m0 : hget (Ev.newRow (Ev.newRow h [.int .i64 q.room, .int .i64 q.last, w] 0 []) [.int .i64 0, .int .i64 0, .slice none 0 0] 0 []) h.size = some (.cells [.int .i64 q.room, .int .i64 q.last, w] 0 true []) := by simp (disch := first | omega | (simp only [newRow_size, Array.size_setIfInBounds, Array.size_push]; done) | (simp only [newRow_size, Array.size_setIfInBounds, Array.size_push]; omega)) []
  have m1 : hget (Ev.newRow (Ev.newRow h [.int .i64 q.room, .int .i64 q.last, w] 0 []) [.int .i64 0, .int .i64 0, .slice none 0 0] 0 []) (h.size + 1) = some (.cells [.int .i64 0, .int .i64 0, .slice none 0 0] 0 true []) := by simp (disch := first | omega | (simp only [newRow_size, Array.size_setIfInBounds, Array.size_push]; done) | (simp only [newRow_size, Array.size_setIfInBounds, Array.size_push]; omega)) []
  generalize Ev.newRow (Ev.newRow h [.int .i64 q.room, .int .i64 q.last, w] 0 []) [.int .i64 0, .int .i64 0, .slice none 0 0] 0 [] = E at kE m0 m1 ⊢
  refine Ans.next (follows_spec (F := F) (by omega) ow0 stamp) ?_
  rintro u h1 ⟨rfl, k1⟩
  have zE := lt_of_get m1
  have m0 := (k1.get (by omega) (by simp)).trans m0
  have m1 := (k1.get (by omega) (by simp)).trans m1
  have kh := kE.trans k1
  clear kE k1
  have z1 := lt_of_get m1
  have fin : ∀ (c : Int) (q' : Qm) (w' : Value) (h2 : H), collM q stamp l = (c, q') → Kept h h2 [] → h.size + 1 < h2.size → SlR (fun c => ok c ∧ c ≠ h.size + 1) 5 (ItmC (fun c => ok c ∧ c ≠ h.size + 1)) h2 w' q'.items →
      Ans (some (Value.tuple ⟨[.agg ⟨[.int .i64 q'.room, .int .i64 q'.last, w']⟩, .int .i64 c]⟩, h2.setIfInBounds (h.size + 1) (.cells [.int .i64 q'.room, .int .i64 q'.last, w'] 0 true []))) Q := by
    intro c q' w' h2 e k2 hz sw
    have k6 : Kept h2 (h2.setIfInBounds (h.size + 1) (.cells [.int .i64 q'.room, .int .i64 q'.last, w'] 0 true [])) [h.size + 1] := ⟨by simp, fun c hc hn => by
      rw [List.mem_singleton] at hn
      rw [set_other (fun e => hn e.symm)]⟩
    subst hQ
    rw [e]
    refine Ans.of ⟨_, rfl, ⟨w', rfl, SlItm.imp sw (fun _ _ q => q.1) (keep_of k6.c (by simp))⟩, by have := k2.1; have := k6.1; omega, fun c hc _ => (k6.get (by have := k2.1; omega) (by simp; omega)).trans (k2.get hc (by simp))⟩
  have same : ∀ h2, Kept h h2 [] → SlR (fun c => ok c ∧ c ≠ h.size + 1) 5 (ItmC (fun c => ok c ∧ c ≠ h.size + 1)) h2 w q.items := fun h2 k => SlItm.imp s (fun c _ q => ⟨q.1, by omega⟩) (keep_of k.c (by simp))
  by_cases hf : fitsM q.last stamp = 0
  · by_cases hz : l.length = 0
    · have hm : collM q stamp l = (100, q) := by unfold collM; rw [if_neg (by simp [hf]), if_pos (List.length_eq_zero_iff.1 hz)]
      simp (disch := first | omega | (simp only [newRow_size, Array.size_setIfInBounds, Array.size_push]; done) | (simp only [newRow_size, Array.size_setIfInBounds, Array.size_push]; omega)) [r38_2, hf, r38_4, hlv, hz, m0, m1, ow, vw, r38_5, eqT, eqF, neT, neF, ltT, ltF, leT, leF, nltT, nltF, nleT, nleF, nneT, nneF, List.getElem?_cons_zero, List.getElem?_cons_succ]
      exact fin _ _ _ _ hm kh z1 (same _ kh)
    · have hl0 : ¬ l = [] := fun e => hz (by rw [e]; rfl)
      by_cases hr : q.room = 0
      · have hm : collM q stamp l = (46, q) := by unfold collM; rw [if_neg (by simp [hf]), if_neg hl0, if_pos hr]
        simp (disch := first | omega | (simp only [newRow_size, Array.size_setIfInBounds, Array.size_push]; done) | (simp only [newRow_size, Array.size_setIfInBounds, Array.size_push]; omega)) [r38_2, hf, r38_4, hlv, hz, m0, m1, ow, vw, r38_6, hr, r38_7, eqT, eqF, neT, neF, ltT, ltF, leT, leF, nltT, nltF, nleT, nleF, nneT, nneF, List.getElem?_cons_zero, List.getElem?_cons_succ]
        have := fin _ _ _ _ hm kh z1 (same _ kh)
        rw [hr] at this
        exact this
      · have hm : collM q stamp l = (0, ⟨q.room, [⟨stamp, afterM q, true, [], l⟩], stamp⟩) := by unfold collM; rw [if_neg (by simp [hf]), if_neg hl0, if_neg hr]
        have hit : q.items.length = 0 ∧ afterM q = q.last ∨ ∃ b o c cs es lv an, 0 < q.items.length ∧ w = .slice (some ⟨b, o, none⟩) q.items.length c ∧ hget h1 b = some (.cells cs es lv an) ∧ o + 5 ≤ cs.length ∧ (cs.drop (o + 1)).take 1 = [.int .i64 (afterM q)] := by
          cases hq : q.items with
          | nil => exact .inl ⟨rfl, by simp [afterM, hq]⟩
          | cons x rest =>
            have sg := SlItm.imp s (ok' := fun c => ok c ∧ c < h.size) (fun _ _ q => q) (keep_of kh.c (by simp))
            obtain ⟨b, o, c, cs, es, lv, an, e, hk, hg, hle, hI⟩ := sg.at' (i := 0) (x := x) (by rw [hq]; rfl)
            obtain ⟨_, _, _, _, e1, _⟩ := id_at hI hle
            simp only [Nat.zero_mul, Nat.add_zero] at hle e1
            rw [hq] at e
            exact .inr ⟨b, o, c, cs, es, lv, an, by simp, e, hg, hle, by rw [e1]; simp [afterM, hq]⟩
        have sl1 := SlPrt.imp sl (ok' := ok2) (fun _ _ q => q) (keep_of kh.c (by simp))
        have tail : ∀ (h2 : H) (vv : Value), CopyP h1 l vv h2 → Ans (some (Value.tuple ⟨[.agg ⟨[.int .i64 q.room, .int .i64 stamp, .slice (some ⟨h2.size, 0, none⟩) 1 1]⟩, .int .i64 0]⟩, Array.setIfInBounds (Ev.newRow h2 [.int .i64 stamp, .int .i64 (afterM q), .bool true, .slice none 0 0, vv] 5 []) (h.size + 1) (.cells [.int .i64 q.room, .int .i64 stamp, .slice (some ⟨h2.size, 0, none⟩) 1 1] 0 true []))) Q := by
          rintro h2 vv ⟨b2, k2⟩
          have y2 := k2.1
          have kR := rowKept h2 [.int .i64 stamp, .int .i64 (afterM q), .bool true, .slice none 0 0, vv] 5 []
          refine fin _ _ _ _ hm ((kh.trans k2).trans kR) (by simp; omega) (.inr ⟨h2.size, 0, 1, [.int .i64 stamp, .int .i64 (afterM q), .bool true, .slice none 0 0, vv], rfl, by simp, ⟨hok _ (by have := kh.1; omega), by omega⟩, cel_of (es := 5) (lv := true) (an := []) (by simp (disch := first | omega | (simp only [newRow_size, Array.size_setIfInBounds, Array.size_push]; done) | (simp only [newRow_size, Array.size_setIfInBounds, Array.size_push]; omega)) []), ?_⟩)
          intro i y hy
          cases i with
          | succ i => simp at hy
          | zero =>
            simp at hy; subst hy
            refine ⟨by simp, .slice none 0 0, vv, by simp, .inl ⟨.inl rfl, rfl⟩, SlPrt.imp b2.sl (fun c _ hc => ?_) (keep_of kR.c (by simp))⟩
            have hc' : h1.size ≤ c := hc
            exact ⟨hok c (by omega), by omega⟩
        rcases hit with ⟨hn, ha⟩ | ⟨b, o, c, cs, es, lv, an, hn, rfl, hg, hle, ha⟩
        · rw [ha] at tail
          simp (disch := first | omega | (simp only [newRow_size, Array.size_setIfInBounds, Array.size_push]; done) | (simp only [newRow_size, Array.size_setIfInBounds, Array.size_push]; omega)) [r38_2, hf, r38_4, hlv, hz, m0, m1, r38_6, hr, r38_8, r38_9, hl, hn, eqT, eqF, neT, neF, ltT, ltF, leT, leF, nltT, nltF, nleT, nleF, nneT, nneF, List.getElem?_cons_zero, List.getElem?_cons_succ, d38_11]
          refine Ans.nextD (parts_spec (F := F) (by omega) sl1 hs) ?_
          rintro v2 h2 c2
          have t := tail h2 v2 c2
          obtain ⟨b2, k2⟩ := c2
          have y2 := k2.1
          have n0 := (k2.get (by omega) (by simp)).trans m0
          have n1 := (k2.get (by omega) (by simp)).trans m1
          have o2 := b2.sl.one
          have v2c := b2.sl.vc
          simp only [oneCell] at o2
          simp only [vcells] at v2c
          simp (disch := first | omega | (simp only [newRow_size, Array.size_setIfInBounds, Array.size_push]; done) | (simp only [newRow_size, Array.size_setIfInBounds, Array.size_push]; omega)) [n0, n1, o2, v2c, eqT, eqF, neT, neF, ltT, ltF, leT, leF, nltT, nltF, nleT, nleF, nneT, nneF, List.getElem?_cons_zero, List.getElem?_cons_succ, dk_go, chks_nil, chks_cons, chkA_nil, chkA_cons, chk1_no, chk1_yes, chkV_some, hAt_eq, hOf_some, hOf_none, sameV, sameL, sameCell]
          exact t
        · simp (disch := first | omega | (simp only [newRow_size, Array.size_setIfInBounds, Array.size_push]; done) | (simp only [newRow_size, Array.size_setIfInBounds, Array.size_push]; omega)) [r38_2, hf, r38_4, hlv, hz, m0, m1, r38_6, hr, r38_8, r38_9, hn, hg, ha, r38_10, eqT, eqF, neT, neF, ltT, ltF, leT, leF, nltT, nltF, nleT, nleF, nneT, nneF, List.getElem?_cons_zero, List.getElem?_cons_succ, d38_11]
          refine Ans.nextD (parts_spec (F := F) (by omega) sl1 hs) ?_
          rintro v2 h2 c2
          have t := tail h2 v2 c2
          obtain ⟨b2, k2⟩ := c2
          have y2 := k2.1
          have n0 := (k2.get (by omega) (by simp)).trans m0
          have n1 := (k2.get (by omega) (by simp)).trans m1
          have o2 := b2.sl.one
          have v2c := b2.sl.vc
          simp only [oneCell] at o2
          simp only [vcells] at v2c
          simp (disch := first | omega | (simp only [newRow_size, Array.size_setIfInBounds, Array.size_push]; done) | (simp only [newRow_size, Array.size_setIfInBounds, Array.size_push]; omega)) [n0, n1, o2, v2c, eqT, eqF, neT, neF, ltT, ltF, leT, leF, nltT, nltF, nleT, nleF, nneT, nneF, List.getElem?_cons_zero, List.getElem?_cons_succ, dk_go, chks_nil, chks_cons, chkA_nil, chkA_cons, chk1_no, chk1_yes, chkV_some, hAt_eq, hOf_some, hOf_none, sameV, sameL, sameCell]
          exact t
  · have hm : collM q stamp l = (fitsM q.last stamp, q) := by unfold collM; rw [if_pos hf]
    simp (disch := first | omega | (simp only [newRow_size, Array.size_setIfInBounds, Array.size_push]; done) | (simp only [newRow_size, Array.size_setIfInBounds, Array.size_push]; omega)) [r38_2, hf, m0, m1, ow, vw, r38_3, eqT, eqF, neT, neF, ltT, ltF, leT, leF, nltT, nltF, nleT, nleF, nneT, nneF, List.getElem?_cons_zero, List.getElem?_cons_succ]
    exact fin _ _ _ _ hm kh z1 (same _ kh)

end Go.Proofs.Ytkkagpchcefidaa

/- The document's queue: Put. -/
set_option linter.unusedSimpArgs false
set_option linter.unusedVariables false
namespace Go.Proofs.Ytkkagpchcefidaa
open Go.Ev

set_option maxHeartbeats 2000000 in
theorem refPut_spec {F : Nat} (hF : 17592186044430 ≤ F) {ok ok2 : Nat → Prop} {h : H} {cs : List Value} {q : Qm} (s : RefC ok h cs q) (g : q.Good) (hok : ∀ c, h.size ≤ c → ok c) {v : Value} {l : List Tgd}
    (sl : SlR ok2 5 (TgdC ok2) h v l) (hs : ShortT l) (stamp : Int) :
    Ans (cf F 35 [.agg ⟨cs⟩, .int .i64 stamp, v] h) (RefPost ok h (putM q stamp l)) := by
  generalize hQ : RefPost ok h (putM q stamp l) = Q
  obtain ⟨F, rfl⟩ : ∃ G, F = G + 1 := ⟨F - 1, by omega⟩
  rw [cf_step (a := a35) rfl rfl (by simp [a35])]
  obtain ⟨w, rfl, s⟩ := s
  have s := SlItm.imp s (ok' := fun c => ok c ∧ c < h.size) (fun b hb q => ⟨q, hb⟩) (fun _ _ _ e => e)
  have ow := s.one
  have ow0 := ow
  have vw := s.vc
  have hl := s.len
  have hlv := sl.len
  have hgl := g.len
  have hgr := g.room
  simp only [oneCell] at ow
  simp only [vcells] at vw
  simp (disch := first | omega | (simp only [newRow_size, Array.size_setIfInBounds, Array.size_push]; done) | (simp only [newRow_size, Array.size_setIfInBounds, Array.size_push]; omega)) [a35, r35_0, r35_1, ow, eqT, eqF, neT, neF, ltT, ltF, leT, leF, nltT, nltF, nleT, nleF, nneT, nneF, List.getElem?_cons_zero, List.getElem?_cons_succ]
  have kE : Kept h (Ev.newRow (Ev.newRow h [.int .i64 q.room, .int .i64 q.last, w] 0 []) [.int .i64 0, .int .i64 0, .slice none 0 0] 0 []) [] := ⟨(by first | omega | (simp only [newRow_size, Array.size_setIfInBounds, Array.size_push]; done) | (simp only [newRow_size, Array.size_setIfInBounds, Array.size_push]; omega)), fun c hc _ => by simp (disch := first | omega | (simp only [newRow_size, Array.size_setIfInBounds, Array.size_push]; done) | (simp only [newRow_size, Array.size_setIfInBounds, Array.size_push]; omega)) []⟩
  have m0 : hget (Ev.newRow (Ev.newRow h [.int .i64 q.room, .int .i64 q.last, w] 0 []) [.int .i64 0, .int .i64 0, .slice none 0 0] 0 []) h.size = some (.cells [.int .i64 q.room, .int .i64 q.last, w] 0 true []) := by simp (disch := first | omega | (simp only [newRow_size, Array.size_setIfInBounds, Array.size_push]; done) | (simp only [newRow_size, Array.size_setIfInBounds, Array.size_push]; omega)) []
  have m1 : hget (Ev.newRow (Ev.newRow h [.int .i64 q.room, .int .i64 q.last, w] 0 []) [.int .i64 0, .int .i64 0, .slice none 0 0] 0 []) (h.size + 1) = some (.cells [.int .i64 0, .int .i64 0, .slice none 0 0] 0 true []) := by simp (disch := first | omega | (simp only [newRow_size, Array.size_setIfInBounds, Array.size_push]; done) | (simp only [newRow_size, Array.size_setIfInBounds, Array.size_push]; omega)) []
  generalize Ev.newRow (Ev.newRow h [.int .i64 q.room, .int .i64 q.last, w] 0 []) [.int .i64 0, .int .i64 0, .slice none 0 0] 0 [] = E at kE m0 m1 ⊢
  refine Ans.next (follows_spec (F := F) (by omega) ow0 stamp) ?_
  rintro u h1 ⟨rfl, k1⟩
  have zE := lt_of_get m1
  have m0 := (k1.get (by omega) (by simp)).trans m0
  have m1 := (k1.get (by omega) (by simp)).trans m1
  have kh := kE.trans k1
  clear kE k1
  have z1 := lt_of_get m1
  have fin : ∀ (c : Int) (q' : Qm) (w' : Value) (h2 : H), putM q stamp l = (c, q') → Kept h h2 [] → h.size + 1 < h2.size → SlR (fun c => ok c ∧ c ≠ h.size + 1) 5 (ItmC (fun c => ok c ∧ c ≠ h.size + 1)) h2 w' q'.items →
      Ans (some (Value.tuple ⟨[.agg ⟨[.int .i64 q'.room, .int .i64 q'.last, w']⟩, .int .i64 c]⟩, h2.setIfInBounds (h.size + 1) (.cells [.int .i64 q'.room, .int .i64 q'.last, w'] 0 true []))) Q := by
    intro c q' w' h2 e k2 hz sw
    have k6 : Kept h2 (h2.setIfInBounds (h.size + 1) (.cells [.int .i64 q'.room, .int .i64 q'.last, w'] 0 true [])) [h.size + 1] := ⟨by simp, fun c hc hn => by
      rw [List.mem_singleton] at hn
      rw [set_other (fun e => hn e.symm)]⟩
    subst hQ
    rw [e]
    refine Ans.of ⟨_, rfl, ⟨w', rfl, SlItm.imp sw (fun _ _ q => q.1) (keep_of k6.c (by simp))⟩, by have := k2.1; have := k6.1; omega, fun c hc _ => (k6.get (by have := k2.1; omega) (by simp; omega)).trans (k2.get hc (by simp))⟩
  have same : ∀ h2, Kept h h2 [] → SlR (fun c => ok c ∧ c ≠ h.size + 1) 5 (ItmC (fun c => ok c ∧ c ≠ h.size + 1)) h2 w q.items := fun h2 k => SlItm.imp s (fun c _ q => ⟨q.1, by omega⟩) (keep_of k.c (by simp))
  by_cases hf : fitsM q.last stamp = 0
  · by_cases hz : l.length = 0
    · have hm : putM q stamp l = (100, q) := by unfold putM; rw [if_neg (by simp [hf]), if_pos (.inl (List.length_eq_zero_iff.1 hz))]
      simp (disch := first | omega | (simp only [newRow_size, Array.size_setIfInBounds, Array.size_push]; done) | (simp only [newRow_size, Array.size_setIfInBounds, Array.size_push]; omega)) [r35_2, hf, r35_4, hlv, hz, m0, m1, ow, vw, r35_5, eqT, eqF, neT, neF, ltT, ltF, leT, leF, nltT, nltF, nleT, nleF, nneT, nneF, List.getElem?_cons_zero, List.getElem?_cons_succ]
      exact fin _ _ _ _ hm kh z1 (same _ kh)
    · have hl0 : ¬ l = [] := fun e => hz (by rw [e]; rfl)
      have sl1 := SlTgd.imp sl (ok' := ok2) (fun _ _ q => q) (keep_of kh.c (by simp))
      simp (disch := first | omega | (simp only [newRow_size, Array.size_setIfInBounds, Array.size_push]; done) | (simp only [newRow_size, Array.size_setIfInBounds, Array.size_push]; omega)) [r35_2, hf, r35_4, hlv, hz, r35_6, eqT, eqF, neT, neF, ltT, ltF, leT, leF, nltT, nltF, nleT, nleF, nneT, nneF, List.getElem?_cons_zero, List.getElem?_cons_succ]
      refine loop_rule (fun m e k => ∃ (i : Nat), m = l.length - i ∧ i ≤ l.length ∧ e = [(1, .int .i64 stamp), (2, v), (3, .pointer (some ⟨h.size, 0, none⟩)), (6, .pointer (some ⟨h.size + 1, 0, none⟩)), (9, .int .i64 i)] ∧ k = h1 ∧ bare (l.take i) = false) ?_ _ l.length _ _ (by have := hs.1; omega) ⟨0, by omega, by omega, rfl, rfl, rfl⟩
      rintro m e k again ⟨i, rfl, hi, rfl, rfl, hb⟩ ih
      by_cases hlt : i < l.length
      · obtain ⟨x, hx⟩ : ∃ x, l[i]? = some x := ⟨_, List.getElem?_eq_getElem hlt⟩
        obtain ⟨b, o, c, cs, es, lv, an, rfl, hk, hg, hle, hR⟩ := sl1.at' hx
        obtain ⟨vt, _, _, e4, st⟩ := hd_at hR hle
        have hsl := hs.1
        have hw : IntKind.i64.wrap ((i : Int) + 1) = ((i + 1 : Nat) : Int) := by rw [IntKind.wrap_i64]; omega
        have ht := st.len
        by_cases htz : x.tags.length = 0
        · have hm : putM q stamp l = (100, q) := by unfold putM; rw [if_neg (by simp [hf]), if_pos (.inr ⟨x, List.mem_of_getElem? hx, List.length_eq_zero_iff.1 htz⟩)]
          simp (disch := first | omega | (simp only [newRow_size, Array.size_setIfInBounds, Array.size_push]; done) | (simp only [newRow_size, Array.size_setIfInBounds, Array.size_push]; omega)) [l35_11, r35_7, hlv, r35_8, hg, e4, ht, htz, m0, m1, ow, vw, r35_9, eqT, eqF, neT, neF, ltT, ltF, leT, leF, nltT, nltF, nleT, nleF, nneT, nneF, List.getElem?_cons_zero, List.getElem?_cons_succ]
          exact fin _ _ _ _ hm kh z1 (same _ kh)
        · simp (disch := first | omega | (simp only [newRow_size, Array.size_setIfInBounds, Array.size_push]; done) | (simp only [newRow_size, Array.size_setIfInBounds, Array.size_push]; omega)) [l35_11, r35_7, hlv, r35_8, hg, e4, ht, htz, r35_10, hw, eqT, eqF, neT, neF, ltT, ltF, leT, leF, nltT, nltF, nleT, nleF, nneT, nneF, List.getElem?_cons_zero, List.getElem?_cons_succ]
          refine ih _ _ _ (by omega) ⟨i + 1, rfl, by omega, rfl, rfl, ?_⟩
          rw [take_snoc hx]
          simp only [bare] at hb ⊢
          rw [List.any_append, hb]
          simp
          intro e
          rw [e] at htz; simp at htz
      · have hii : i = l.length := by omega
        subst hii
        rw [List.take_length] at hb
        have hnb : ¬ (l = [] ∨ ∃ t ∈ l, t.tags = []) := by
          rintro (e | e)
          · exact hl0 e
          · rw [(bare_iff l).2 e] at hb; cases hb
        simp (disch := first | omega | (simp only [newRow_size, Array.size_setIfInBounds, Array.size_push]; done) | (simp only [newRow_size, Array.size_setIfInBounds, Array.size_push]; omega)) [l35_11, r35_7, hlv, r35_12, m0, hl, eqT, eqF, neT, neF, ltT, ltF, leT, leF, nltT, nltF, nleT, nleF, nneT, nneF, List.getElem?_cons_zero, List.getElem?_cons_succ]
        by_cases hfull : q.room ≤ q.items.length
        · have hm : putM q stamp l = (46, q) := by unfold putM; rw [if_neg (by simp [hf]), if_neg hnb, if_pos hfull]
          simp (disch := first | omega | (simp only [newRow_size, Array.size_setIfInBounds, Array.size_push]; done) | (simp only [newRow_size, Array.size_setIfInBounds, Array.size_push]; omega)) [hfull, m0, m1, ow, vw, r35_13, eqT, eqF, neT, neF, ltT, ltF, leT, leF, nltT, nltF, nleT, nleF, nneT, nneF, List.getElem?_cons_zero, List.getElem?_cons_succ]
          exact fin _ _ _ _ hm kh z1 (same _ kh)
        · have hm : putM q stamp l = (0, ⟨q.room, q.items ++ [⟨stamp, q.last, false, l, []⟩], stamp⟩) := by unfold putM; rw [if_neg (by simp [hf]), if_neg hnb, if_neg hfull]
          simp (disch := first | omega | (simp only [newRow_size, Array.size_setIfInBounds, Array.size_push]; done) | (simp only [newRow_size, Array.size_setIfInBounds, Array.size_push]; omega)) [hfull, m0, r35_14, r35_15, eqT, eqF, neT, neF, ltT, ltF, leT, leF, nltT, nltF, nleT, nleF, nneT, nneF, List.getElem?_cons_zero, List.getElem?_cons_succ]
          refine loop_rule (fun m e g => ∃ (i : Nat) (u : Value), m = q.items.length - i ∧ i ≤ q.items.length ∧ e = [(1, .int .i64 stamp), (2, v), (3, .pointer (some ⟨h.size, 0, none⟩)), (6, .pointer (some ⟨h.size + 1, 0, none⟩)), (10, .pointer (some ⟨k.size, 0, none⟩)), (11, .int .i64 i)] ∧ Kept k g [] ∧ hget g k.size = some (.cells [.int .i64 q.room, .int .i64 stamp, u] 0 true []) ∧ Bld (fun c => k.size < c) 5 (ItmC (fun c => ok c ∧ c ≠ h.size + 1 ∧ c ≠ k.size)) g u (q.items.take i)) ?_ _ q.items.length _ _ (by omega) ⟨0, _, by omega, by omega, rfl, rowKept _ _ _ _, by simp (disch := first | omega | (simp only [newRow_size, Array.size_setIfInBounds, Array.size_push]; done) | (simp only [newRow_size, Array.size_setIfInBounds, Array.size_push]; omega)) [], Bld.nil _ _ _ _⟩
          rintro m e g' again2 ⟨i, u, rfl, hi2, rfl, kg, n10, bu⟩ ih2
          have yg := kg.1
          have z10 := lt_of_get n10
          have n0 := (kg.get (by omega) (by simp)).trans m0
          have n1 := (kg.get (by omega) (by simp)).trans m1
          by_cases hlt2 : i < q.items.length
          · obtain ⟨x, hx⟩ : ∃ x, q.items[i]? = some x := ⟨_, List.getElem?_eq_getElem hlt2⟩
            have sg := SlItm.imp s (ok' := fun c => ok c ∧ c ≠ h.size + 1 ∧ c ≠ k.size) (fun c _ q => ⟨q.1, by omega, by omega⟩) (keep_of (kh.trans kg).c (by simp))
            obtain ⟨b, o, c, cs, es, lv, an, rfl, hk, hg, hle, hI⟩ := sg.at' hx
            obtain ⟨vt, vp, e5, e0, _, _, _, _, st, sp⟩ := id_at hI hle
            have hw1 : IntKind.i64.wrap ((i : Int) + 1) = ((i + 1 : Nat) : Int) := by rw [wrap_id (by omega) (by omega)]; rfl
            have hto := st.one
            have hpo := sp.one
            simp only [oneCell] at hto hpo
            simp (disch := first | omega | (simp only [newRow_size, Array.size_setIfInBounds, Array.size_push]; done) | (simp only [newRow_size, Array.size_setIfInBounds, Array.size_push]; omega)) [l35_19, r35_16, n0, hl, eqT, eqF, neT, neF, ltT, ltF, leT, leF, nltT, nltF, nleT, nleF, nneT, nneF, List.getElem?_cons_zero, List.getElem?_cons_succ, d35_17, n10, hg, e5, hto, hpo, srcOf]
            have kR := rowKept g' [.int .i64 x.stamp, .int .i64 x.after, .bool x.marker, vt, vp] 5 []
            have bR := bu.kept kR (by simp) (fun cs t _ q => ItmC.imp q (fun _ _ q => q) (keep_of kR.c (by simp)))
            refine Ans.nextE (bR.app (x := x) (bytes := 72) rfl ?_ ?_ ?_ ?_) ?_
            · rw [List.length_take]; omega
            · show k.size < _; exact (by first | omega | (simp only [newRow_size, Array.size_setIfInBounds, Array.size_push]; done) | (simp only [newRow_size, Array.size_setIfInBounds, Array.size_push]; omega))
            · exact fun h' k cs y _ q => ItmC.imp q (fun _ _ q => q) (keep_of k (by simp))
            · exact fun h' k3 => ⟨vt, vp, rfl, SlTgd.imp st (fun _ _ q => q) (keep_of (kR.c.trans k3) (by simp)), SlPrt.imp sp (fun _ _ q => q) (keep_of (kR.c.trans k3) (by simp))⟩
            rintro u' h5 ⟨b5, k5, y5, g5, _⟩
            have yR : (Ev.newRow g' [.int .i64 x.stamp, .int .i64 x.after, .bool x.marker, vt, vp] 5 []).size = g'.size + 1 := by simp
            have hz5 := k5.1
            have p10 := (g5 k.size (by omega) (bR.ne (by omega))).trans ((kR.get (by omega) (by simp)).trans n10)
            have ou := b5.sl.one
            have vu := b5.sl.vc
            simp only [oneCell] at ou
            simp only [vcells] at vu
            simp (disch := first | omega | (simp only [newRow_size, Array.size_setIfInBounds, Array.size_push]; done) | (simp only [newRow_size, Array.size_setIfInBounds, Array.size_push]; omega)) [p10, ou, vu, eqT, eqF, neT, neF, ltT, ltF, leT, leF, nltT, nltF, nleT, nleF, nneT, nneF, List.getElem?_cons_zero, List.getElem?_cons_succ, r35_18, hw1]
            have k6 : Kept h5 (h5.setIfInBounds k.size (.cells [.int .i64 q.room, .int .i64 stamp, u'] 0 true [])) [k.size] := ⟨by simp, fun c hc hn => by
              rw [List.mem_singleton] at hn
              rw [set_other (fun e => hn e.symm)]⟩
            refine ih2 (q.items.length - (i + 1)) _ _ (by omega) ⟨i + 1, u', rfl, by omega, rfl, ?_, ?_, ?_⟩
            · refine ⟨by have := k6.1; omega, fun c hc _ => ?_⟩
              exact (k6.get (by omega) (by simp; omega)).trans ((g5 c (by omega) (bR.ne (by omega))).trans ((kR.get (by omega) (by simp)).trans (kg.get hc (by simp))))
            · simp (disch := first | omega | (simp only [newRow_size, Array.size_setIfInBounds, Array.size_push]; done) | (simp only [newRow_size, Array.size_setIfInBounds, Array.size_push]; omega)) []
            · rw [take_snoc hx]
              exact b5.kept k6 (by simp) (fun cs t ht e => e.imp (fun _ _ q => q) (keep_of k6.c (by
                intro c hc
                rw [List.mem_singleton] at hc
                subst hc
                exact fun q => q.2.2 rfl)))
          · have hii : i = q.items.length := by omega
            subst hii
            rw [List.take_length] at bu
            simp (disch := first | omega | (simp only [newRow_size, Array.size_setIfInBounds, Array.size_push]; done) | (simp only [newRow_size, Array.size_setIfInBounds, Array.size_push]; omega)) [l35_19, r35_16, n0, hl, eqT, eqF, neT, neF, ltT, ltF, leT, leF, nltT, nltF, nleT, nleF, nneT, nneF, List.getElem?_cons_zero, List.getElem?_cons_succ, d35_20, n10]
            have slg := SlTgd.imp sl1 (ok' := ok2) (fun _ _ q => q) (keep_of kg.c (by simp))
            refine Ans.nextD (changes_spec (F := F) (by omega) slg hs) ?_
            rintro v2 h2 ⟨b2, k2⟩
            have y2 := k2.1
            have kR := rowKept h2 [.int .i64 stamp, .int .i64 q.last, .bool false, v2, .slice none 0 0] 5 []
            have yR : (Ev.newRow h2 [.int .i64 stamp, .int .i64 q.last, .bool false, v2, .slice none 0 0] 5 []).size = h2.size + 1 := by simp
            have bR := (bu.kept k2 (by simp) (fun cs t _ q => ItmC.imp q (fun _ _ q => q) (keep_of k2.c (by simp)))).kept kR (by simp) (fun cs t _ q => ItmC.imp q (fun _ _ q => q) (keep_of kR.c (by simp)))
            have r10 := (kR.get (by omega) (by simp)).trans ((k2.get (by omega) (by simp)).trans n10)
            have r0 := (kR.get (by omega) (by simp)).trans ((k2.get (by omega) (by simp)).trans n0)
            have r1 := (kR.get (by omega) (by simp)).trans ((k2.get (by omega) (by simp)).trans n1)
            have o2 := b2.sl.one
            have v2c := b2.sl.vc
            have hsu := SlR.sameV bu.sl
            have hsi : ∀ (t : IntKind) (a : Int), Ev.sameV (.int t a) (.int t a) = true := fun t a => by simp [Ev.sameV, sameCell]
            simp only [oneCell] at o2
            simp only [vcells] at v2c
            simp (disch := first | omega | (simp only [newRow_size, Array.size_setIfInBounds, Array.size_push]; done) | (simp only [newRow_size, Array.size_setIfInBounds, Array.size_push]; omega)) [o2, v2c, srcOf, eqT, eqF, neT, neF, ltT, ltF, leT, leF, nltT, nltF, nleT, nleF, nneT, nneF, List.getElem?_cons_zero, List.getElem?_cons_succ]
            refine Ans.nextD (bR.app (x := ⟨stamp, q.last, false, l, []⟩) (bytes := 72) rfl ?_ ?_ ?_ ?_) ?_
            · omega
            · show k.size < _; omega
            · exact fun h' k cs y _ q => ItmC.imp q (fun _ _ q => q) (keep_of k (by simp))
            · refine fun h' k3 => ⟨v2, .slice none 0 0, rfl, SlTgd.imp b2.sl (fun c _ hc => ?_) (keep_of (kR.c.trans k3) (by simp)), .inl ⟨.inl rfl, rfl⟩⟩
              have hc' : g'.size ≤ c := hc
              exact ⟨hok c (by omega), by omega, by omega⟩
            rintro u' h5 ⟨b5, k5, y5, g5, _⟩
            have hz5 := k5.1
            have p10 := (g5 k.size (by omega) (bR.ne (by omega))).trans r10
            have p1 := (g5 (h.size + 1) (by omega) (bR.ne (by omega))).trans r1
            have ou := b5.sl.one
            have vu := b5.sl.vc
            simp only [oneCell] at ou
            simp only [vcells] at vu
            have z5 : k.size < h5.size := by omega
            generalize Ev.newRow h2 [.int .i64 stamp, .int .i64 q.last, .bool false, v2, .slice none 0 0] 5 [] = E2 at r10 r0 r1 bR g5 k5 y5 yR kR hz5 ⊢
            simp (disch := first | omega | (simp only [newRow_size, Array.size_setIfInBounds, Array.size_push]; done) | (simp only [newRow_size, Array.size_setIfInBounds, Array.size_push]; omega)) [p10, ou, vu, r10, r0, eqT, eqF, neT, neF, ltT, ltF, leT, leF, nltT, nltF, nleT, nleF, nneT, nneF, List.getElem?_cons_zero, List.getElem?_cons_succ, dk_go, chks_nil, chks_cons, chkA_nil, chkA_cons, chk1_no, chk1_yes, chkV_some, hAt_eq, hOf_some, hOf_none, hsu, hsi, r35_21, p1]
            have k6 : Kept h5 (h5.setIfInBounds k.size (.cells [.int .i64 q.room, .int .i64 stamp, u'] 0 true [])) [k.size] := ⟨by simp, fun c hc hn => by
              rw [List.mem_singleton] at hn
              rw [set_other (fun e => hn e.symm)]⟩
            have y6 := k6.1
            refine fin _ _ u' _ hm ?_ (by omega) ?_
            · refine ⟨by omega, fun c hc _ => ?_⟩
              have := kh.1
              exact (k6.get (by omega) (by simp; omega)).trans ((g5 c (by omega) (bR.ne (by omega))).trans ((kR.get (by omega) (by simp)).trans ((k2.get (by omega) (by simp)).trans ((kg.get (by omega) (by simp)).trans (kh.get hc (by simp))))))
            · have kn : ∀ c ∈ [k.size], ¬ (ok c ∧ c ≠ h.size + 1 ∧ c ≠ k.size) := by
                intro c hc
                rw [List.mem_singleton] at hc
                subst hc
                exact fun q => q.2.2 rfl
              refine SlR.imp b5.sl (fun c _ hc => ?_) (fun cs t _ e => e.imp (fun _ _ q => ⟨q.1, q.2.1⟩) (keep_of k6.c kn)) (keep_of k6.c (by simp))
              have hc' : k.size < c := hc
              have := kh.1
              exact ⟨hok c (by omega), by omega⟩
  · have hm : putM q stamp l = (fitsM q.last stamp, q) := by unfold putM; rw [if_pos hf]
    simp (disch := first | omega | (simp only [newRow_size, Array.size_setIfInBounds, Array.size_push]; done) | (simp only [newRow_size, Array.size_setIfInBounds, Array.size_push]; omega)) [r35_2, hf, m0, m1, ow, vw, r35_3, eqT, eqF, neT, neF, ltT, ltF, leT, leF, nltT, nltF, nleT, nleF, nneT, nneF, List.getElem?_cons_zero, List.getElem?_cons_succ]
    exact fin _ _ _ _ hm kh z1 (same _ kh)

end Go.Proofs.Ytkkagpchcefidaa

/- The program's queue, where there is none: nil. -/
set_option linter.unusedSimpArgs false
set_option linter.unusedVariables false
namespace Go.Proofs.Ytkkagpchcefidaa
open Go.Ev

def q0 : Qm := ⟨0, [], 0⟩

theorem Put_nil {F : Nat} (hF : 17592186044430 ≤ F) {ok2 : Nat → Prop} {h : H} {v : Value} {l : List Tgd} (sl : SlR ok2 5 (TgdC ok2) h v l) (hs : ShortT l) (stamp : Int) :
    Ans (cf F 27 [.pointer none, .int .i64 stamp, v] h) fun u h' => u = .int .i64 (putM q0 stamp l).1 ∧ Kept h h' [] := by
  obtain ⟨F, rfl⟩ : ∃ G, F = G + 1 := ⟨F - 1, by omega⟩
  rw [cf_step (a := a27) rfl rfl (by simp [a27])]
  have hl := sl.len
  simp (disch := first | omega | (simp only [newRow_size, Array.size_setIfInBounds, Array.size_push]; done) | (simp only [newRow_size, Array.size_setIfInBounds, Array.size_push]; omega)) [a27, r27_0, r27_1, fits_nil (F := F) (by omega), r27_3, eqT, eqF, neT, neF, ltT, ltF, leT, leF, nltT, nltF, nleT, nleF, nneT, nneF, List.getElem?_cons_zero, List.getElem?_cons_succ]
  by_cases hf : fitsM 0 stamp = 0
  · by_cases hz : l.length = 0
    · have hm : (putM q0 stamp l).1 = 100 := by unfold putM; rw [if_neg (by simp [q0, hf]), if_pos (.inl (List.length_eq_zero_iff.1 hz))]
      simp (disch := first | omega | (simp only [newRow_size, Array.size_setIfInBounds, Array.size_push]; done) | (simp only [newRow_size, Array.size_setIfInBounds, Array.size_push]; omega)) [r27_4, hf, hl, hz, r27_5, r27_6, r27_7, hm, eqT, eqF, neT, neF, ltT, ltF, leT, leF, nltT, nltF, nleT, nleF, nneT, nneF, List.getElem?_cons_zero, List.getElem?_cons_succ]
      exact Ans.of ⟨rfl, Kept.refl _ _⟩
    · simp (disch := first | omega | (simp only [newRow_size, Array.size_setIfInBounds, Array.size_push]; done) | (simp only [newRow_size, Array.size_setIfInBounds, Array.size_push]; omega)) [r27_4, hf, hl, hz, eqT, eqF, neT, neF, ltT, ltF, leT, leF, nltT, nltF, nleT, nleF, nneT, nneF, List.getElem?_cons_zero, List.getElem?_cons_succ]
      refine Ans.next (contains_spec (F := F) (by omega) sl hs.1) ?_
      rintro u h2 ⟨rfl, k2⟩
      cases hb : bare l with
      | true =>
        have hm : (putM q0 stamp l).1 = 100 := by unfold putM; rw [if_neg (by simp [q0, hf]), if_pos (.inr ((bare_iff l).1 hb))]
        simp (disch := first | omega | (simp only [newRow_size, Array.size_setIfInBounds, Array.size_push]; done) | (simp only [newRow_size, Array.size_setIfInBounds, Array.size_push]; omega)) [r27_5, r27_6, r27_7, hm, eqT, eqF, neT, neF, ltT, ltF, leT, leF, nltT, nltF, nleT, nleF, nneT, nneF, List.getElem?_cons_zero, List.getElem?_cons_succ]
        exact Ans.of ⟨rfl, k2⟩
      | false =>
        have hnb : ¬ (l = [] ∨ ∃ t ∈ l, t.tags = []) := by
          rintro (e | e)
          · exact hz (by rw [e]; rfl)
          · rw [(bare_iff l).2 e] at hb; cases hb
        have hm : (putM q0 stamp l).1 = 46 := by unfold putM; rw [if_neg (by simp [q0, hf]), if_neg hnb, if_pos (by simp [q0])]
        simp (disch := first | omega | (simp only [newRow_size, Array.size_setIfInBounds, Array.size_push]; done) | (simp only [newRow_size, Array.size_setIfInBounds, Array.size_push]; omega)) [r27_6, d27_8, r27_9, hm, eqT, eqF, neT, neF, ltT, ltF, leT, leF, nltT, nltF, nleT, nleF, nneT, nneF, List.getElem?_cons_zero, List.getElem?_cons_succ]
        exact Ans.of ⟨rfl, k2⟩
  · have hm : (putM q0 stamp l).1 = fitsM 0 stamp := by unfold putM; rw [if_pos (by simpa [q0] using hf)]; rfl
    simp (disch := first | omega | (simp only [newRow_size, Array.size_setIfInBounds, Array.size_push]; done) | (simp only [newRow_size, Array.size_setIfInBounds, Array.size_push]; omega)) [r27_4, hf, r27_6, r27_7, hm, eqT, eqF, neT, neF, ltT, ltF, leT, leF, nltT, nltF, nleT, nleF, nneT, nneF, List.getElem?_cons_zero, List.getElem?_cons_succ]
    exact Ans.of ⟨rfl, Kept.refl _ _⟩

theorem Collapse_nil {F : Nat} (hF : 17592186044430 ≤ F) {ok2 : Nat → Prop} {h : H} {v : Value} {l : List Prt} (sl : SlR ok2 5 (PrtC ok2) h v l) (stamp : Int) :
    Ans (cf F 29 [.pointer none, .int .i64 stamp, v] h) fun u h' => u = .int .i64 (collM q0 stamp l).1 ∧ Kept h h' [] := by
  obtain ⟨F, rfl⟩ : ∃ G, F = G + 1 := ⟨F - 1, by omega⟩
  rw [cf_step (a := a29) rfl rfl (by simp [a29])]
  have hl := sl.len
  simp (disch := first | omega | (simp only [newRow_size, Array.size_setIfInBounds, Array.size_push]; done) | (simp only [newRow_size, Array.size_setIfInBounds, Array.size_push]; omega)) [a29, r29_0, r29_1, fits_nil (F := F) (by omega), r29_3, eqT, eqF, neT, neF, ltT, ltF, leT, leF, nltT, nltF, nleT, nleF, nneT, nneF, List.getElem?_cons_zero, List.getElem?_cons_succ]
  by_cases hf : fitsM 0 stamp = 0
  · by_cases hz : l.length = 0
    · have hm : (collM q0 stamp l).1 = 100 := by unfold collM; rw [if_neg (by simp [q0, hf]), if_pos (List.length_eq_zero_iff.1 hz)]
      simp (disch := first | omega | (simp only [newRow_size, Array.size_setIfInBounds, Array.size_push]; done) | (simp only [newRow_size, Array.size_setIfInBounds, Array.size_push]; omega)) [r29_4, hf, hl, hz, r29_5, r29_6, r29_7, hm, eqT, eqF, neT, neF, ltT, ltF, leT, leF, nltT, nltF, nleT, nleF, nneT, nneF, List.getElem?_cons_zero, List.getElem?_cons_succ]
      exact Ans.of ⟨rfl, Kept.refl _ _⟩
    · have hm : (collM q0 stamp l).1 = 46 := by unfold collM; rw [if_neg (by simp [q0, hf]), if_neg (fun e => hz (by rw [e]; rfl)), if_pos (show q0.room = 0 from rfl)]
      simp (disch := first | omega | (simp only [newRow_size, Array.size_setIfInBounds, Array.size_push]; done) | (simp only [newRow_size, Array.size_setIfInBounds, Array.size_push]; omega)) [r29_4, hf, hl, hz, r29_6, r29_8, r29_9, hm, eqT, eqF, neT, neF, ltT, ltF, leT, leF, nltT, nltF, nleT, nleF, nneT, nneF, List.getElem?_cons_zero, List.getElem?_cons_succ]
      exact Ans.of ⟨rfl, Kept.refl _ _⟩
  · have hm : (collM q0 stamp l).1 = fitsM 0 stamp := by unfold collM; rw [if_pos (by simpa [q0] using hf)]; rfl
    simp (disch := first | omega | (simp only [newRow_size, Array.size_setIfInBounds, Array.size_push]; done) | (simp only [newRow_size, Array.size_setIfInBounds, Array.size_push]; omega)) [r29_4, hf, r29_6, r29_7, hm, eqT, eqF, neT, neF, ltT, ltF, leT, leF, nltT, nltF, nleT, nleF, nneT, nneF, List.getElem?_cons_zero, List.getElem?_cons_succ]
    exact Ans.of ⟨rfl, Kept.refl _ _⟩

theorem Next_nil {F : Nat} (hF : 1 ≤ F) (h : H) (most : Int) : cf F 20 [.pointer none, .int .i64 most] h = some (.slice none 0 0, h) := by
  obtain ⟨F, rfl⟩ : ∃ G, F = G + 1 := ⟨F - 1, by omega⟩
  rw [cf_step (a := a20) rfl rfl (by simp [a20])]
  simp (disch := first | omega | (simp only [newRow_size, Array.size_setIfInBounds, Array.size_push]; done) | (simp only [newRow_size, Array.size_setIfInBounds, Array.size_push]; omega)) [a20, r20_0, r20_1, r20_2]

theorem Took_nil {F : Nat} (hF : 1 ≤ F) (h : H) (stamp : Int) : cf F 30 [.pointer none, .int .i64 stamp] h = some (.int .i64 0, h) := by
  obtain ⟨F, rfl⟩ : ∃ G, F = G + 1 := ⟨F - 1, by omega⟩
  rw [cf_step (a := a30) rfl rfl (by simp [a30])]
  simp (disch := first | omega | (simp only [newRow_size, Array.size_setIfInBounds, Array.size_push]; done) | (simp only [newRow_size, Array.size_setIfInBounds, Array.size_push]; omega)) [a30, r30_0, r30_1, r30_2]

theorem Len_nil {F : Nat} (hF : 1 ≤ F) (h : H) : cf F 25 [.pointer none] h = some (.int .i64 0, h) := by
  obtain ⟨F, rfl⟩ : ∃ G, F = G + 1 := ⟨F - 1, by omega⟩
  rw [cf_step (a := a25) rfl rfl (by simp [a25])]
  simp (disch := first | omega | (simp only [newRow_size, Array.size_setIfInBounds, Array.size_push]; done) | (simp only [newRow_size, Array.size_setIfInBounds, Array.size_push]; omega)) [a25, r25_0, r25_1, r25_2]

theorem Last_nil {F : Nat} (hF : 1 ≤ F) (h : H) : cf F 24 [.pointer none] h = some (.int .i64 0, h) := by
  obtain ⟨F, rfl⟩ : ∃ G, F = G + 1 := ⟨F - 1, by omega⟩
  rw [cf_step (a := a24) rfl rfl (by simp [a24])]
  simp (disch := first | omega | (simp only [newRow_size, Array.size_setIfInBounds, Array.size_push]; done) | (simp only [newRow_size, Array.size_setIfInBounds, Array.size_push]; omega)) [a24, r24_0, r24_1, r24_2]

end Go.Proofs.Ytkkagpchcefidaa

/- Ev22: parts of slices. -/
set_option linter.unusedSimpArgs false
set_option linter.unusedVariables false
namespace Go.Ev

/-- A part of a slice. -/
def slcV (size : Nat) (v : Value) (lo hi : Option Value) : Option Value := match v with
    | .slice none 0 0 => match optInt hi 0 with
      | some q => match optInt lo 0 with
        | some p => if p ≤ q ∧ q ≤ 0 then some (.slice none 0 0) else none
        | none => none
      | none => none
    | .slice (some ⟨b, o, none⟩) n c => match optInt hi n with
      | some q => match optInt lo 0 with
        | some p => if p ≤ q ∧ q ≤ c then some (.slice (some ⟨b, o + p * size, none⟩) (q - p) (c - p)) else none
        | none => none
      | none => none
    | _ => none

@[simp ↓ high] theorem evOp_slice {size : Nat} {x : Operand} {lo hi : Option Operand} {s : Env} {h : H} : evOp (.slice size x lo hi) s h = (slcV size (aeval s x) (lo.map (aeval s)) (hi.map (aeval s))).map fun v => (v, h) := by
  show (match aeval s x with
    | .slice none 0 0 => match optInt (hi.map (aeval s)) 0 with
      | some q => match optInt (lo.map (aeval s)) 0 with
        | some p => if p ≤ q ∧ q ≤ 0 then some (Value.slice none 0 0, h) else none
        | none => none
      | none => none
    | .slice (some ⟨b, o, none⟩) n c => match optInt (hi.map (aeval s)) n with
      | some q => match optInt (lo.map (aeval s)) 0 with
        | some p => if p ≤ q ∧ q ≤ c then some (.slice (some ⟨b, o + p * size, none⟩) (q - p) (c - p), h) else none
        | none => none
      | none => none
    | _ => none) = _
  unfold slcV
  split
  · split
    · split
      · split <;> rfl
      · rfl
    · rfl
  · split
    · split
      · split <;> rfl
      · rfl
    · rfl
  · rfl

section
variable {α : Type} {ok : Nat → Prop} {w : Nat} {R : H → List Value → α → Prop} {h : H} {v : Value} {xs : List α}

/-- The first ones. -/
theorem Bld.take (s : Bld ok w R h v xs) {n : Nat} (hn : n ≤ xs.length) : ∃ v', slcV w v none (some (.int .i64 n)) = some v' ∧ SlR ok w R h v' (xs.take n) := by
  rcases s with ⟨rfl, rfl⟩ | ⟨b, cs, an, rfl, hk, hb, hl, hi⟩
  · simp at hn; subst hn
    exact ⟨.slice none 0 0, by simp [slcV, optInt], .inl ⟨.inl rfl, rfl⟩⟩
  · refine ⟨.slice (some ⟨b, 0, none⟩) n xs.length, by simp [slcV, optInt, hn], .inr ⟨b, 0, xs.length, cs, ?_, by simp; omega, hk, cel_of hb, ?_⟩⟩
    · rw [List.length_take, Nat.min_eq_left hn]
    · intro i x hx
      have hi' := (List.getElem?_eq_some_iff.1 hx).1
      simp at hi'
      rw [List.getElem?_take, if_pos (by omega)] at hx
      refine ⟨?_, ?_⟩
      · have : (i + 1) * w ≤ xs.length * w := Nat.mul_le_mul_right _ (by omega)
        rw [Nat.add_mul] at this
        omega
      · rw [Nat.zero_add]; exact hi i x hx

/-- All but the first ones. -/
theorem Bld.drop (s : Bld ok w R h v xs) {n : Nat} (hn : n ≤ xs.length) : ∃ v', slcV w v (some (.int .i64 n)) none = some v' ∧ SlR ok w R h v' (xs.drop n) := by
  rcases s with ⟨rfl, rfl⟩ | ⟨b, cs, an, rfl, hk, hb, hl, hi⟩
  · simp at hn; subst hn
    exact ⟨.slice none 0 0, by simp [slcV, optInt], .inl ⟨.inl rfl, rfl⟩⟩
  · refine ⟨.slice (some ⟨b, 0 + n * w, none⟩) (xs.length - n) (xs.length - n), by simp [slcV, optInt, hn], .inr ⟨b, 0 + n * w, xs.length - n, cs, ?_, by simp, hk, cel_of hb, ?_⟩⟩
    · rw [List.length_drop]
    · intro i x hx
      rw [List.getElem?_drop] at hx
      have hi' := (List.getElem?_eq_some_iff.1 hx).1
      refine ⟨?_, ?_⟩
      · have : (n + i + 1) * w ≤ xs.length * w := Nat.mul_le_mul_right _ (by omega)
        rw [Nat.add_mul, Nat.add_mul] at this
        omega
      · have := hi (n + i) x hx
        rw [Nat.add_mul] at this
        rw [Nat.zero_add]; exact this
end

end Go.Ev

/- The desk: how its lists lie in memory. -/
set_option linter.unusedSimpArgs false
set_option linter.unusedVariables false
namespace Go.Ev

/-- A list at the beginning of its block, with room; an: what it grew out of. -/
def Lay (w : Nat) (h : H) (v : Value) (n b : Nat) (cs : List Value) (an : List Nat) : Prop :=
  ∃ c, v = .slice (some ⟨b, 0, none⟩) n c ∧ hget h b = some (.cells cs w true an) ∧ cs.length = c * w ∧ n ≤ c

theorem kill_kept : ∀ (l : List Nat) (h : H), Kept h (kill h l) l ∧ (kill h l).size = h.size
  | [], h => ⟨Kept.refl _ _, rfl⟩
  | a :: r, h => by
    obtain ⟨k, z⟩ := kill_kept r (h.setIfInBounds a .dead)
    refine ⟨⟨by show h.size ≤ (kill (h.setIfInBounds a .dead) r).size; rw [z]; simp, fun b hb hn => ?_⟩, by show (kill (h.setIfInBounds a .dead) r).size = h.size; rw [z]; simp⟩
    simp only [List.mem_cons, not_or] at hn
    have n1 : ¬ a = b := fun e => hn.1 e.symm
    exact (k.get (by simpa using hb) hn.2).trans (set_other n1)

/-- One element put behind: in place, or in a new block. -/
theorem Lay.app {w : Nat} {h : H} {v : Value} {n b : Nat} {cs : List Value} {an : List Nat} {bytes : Nat} (s : Lay w h v n b cs an) (hba : b ∉ an) {new : List Value} (hn : new.length = w) (ho : new.all oneCell = true) (hb : (n + 1) * bytes ≤ 2 ^ 47) :
    Ans (appendTo h w bytes v 1 new) fun v' h' => ∃ b' cs' an', Lay w h' v' (n + 1) b' cs' an' ∧ cs'.take ((n + 1) * w) = cs.take (n * w) ++ new ∧ (b' = b ∧ an' = [] ∧ h'.size = h.size ∨ b' = h.size ∧ an' = b :: an ∧ h'.size = h.size + 1) ∧ Kept h h' (b :: an) := by
  obtain ⟨c, rfl, hg, hl, hc⟩ := s
  have hbs := lt_of_get hg
  have h1 : (n + 1) * w = n * w + w := Nat.succ_mul n w
  by_cases hroom : n + 1 ≤ c
  · have h2 : (n + 1) * w ≤ c * w := Nat.mul_le_mul_right _ hroom
    have hlen : (cs.take (n * w)).length = n * w := by rw [List.length_take]; omega
    obtain ⟨kk, zk⟩ := kill_kept an h
    have hk : hget (kill h an) b = some (.cells cs w true an) := (kk.get hbs hba).trans hg
    refine ⟨.slice (some ⟨b, 0, none⟩) (n + 1) c, (kill h an).setIfInBounds b (.cells (cs.take (n * w) ++ new ++ cs.drop (n * w + w)) w true []), ?_, b, cs.take (n * w) ++ new ++ cs.drop (n * w + w), [], ⟨c, rfl, by simp [hbs, zk], ?_, hroom⟩, ?_, .inl ⟨rfl, rfl, by simp [zk]⟩, ⟨by simp [zk], fun d hd hn' => ?_⟩⟩
    · have : n * w + w ≤ cs.length := by omega
      simp [appendTo, hroom, wr, hg, hn, this]
      rw [if_pos (by simpa [oneCell] using ho)]
    · simp [hn]; omega
    · rw [h1, List.take_append_of_le_length (by simp [hn]; omega), List.take_of_length_le (by simp [hn]; omega)]
    · simp only [List.mem_cons, not_or] at hn'
      have n1 : ¬ b = d := fun e => hn'.1 e.symm
      rw [set_other n1]
      exact kk.get hd hn'.2
  · have hnc : n = c := by omega
    subst hnc
    have e2 : cs.take (n * w) = cs := List.take_of_length_le (by omega)
    refine ⟨.slice (some ⟨h.size, 0, none⟩) (n + 1) (n + 1), newRow (h.setIfInBounds b (.cells cs w false an)) (cs ++ new) w (b :: an), ?_, h.size, cs ++ new, b :: an, ⟨n + 1, rfl, by simp, by simp [hn]; omega, Nat.le_refl _⟩, ?_, .inr ⟨rfl, rfl, by simp⟩, ⟨by simp, fun d hd hn' => ?_⟩⟩
    · have hb' : (n + 1) * bytes ≤ 140737488355328 := by simpa using hb
      have hnl : ¬ n + 1 ≤ n := by omega
      have hle : n * w ≤ cs.length := by omega
      simp [appendTo, hb', hg, hl, hnl, e2, hle]
    · rw [e2, List.take_of_length_le (by simp [hn]; omega)]
    · simp only [List.mem_cons, not_or] at hn'
      have n1 : ¬ b = d := fun e => hn'.1 e.symm
      simp [hd, n1]

end Go.Ev
