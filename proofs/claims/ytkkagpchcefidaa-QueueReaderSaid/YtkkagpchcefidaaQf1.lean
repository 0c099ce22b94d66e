/- QueueReader. -/
import Derived.Test.YtkkagpchcefidaaQf0
set_option linter.unusedSimpArgs false
set_option linter.unusedVariables false
namespace Go.Proofs.Ytkkagpchcefidaa
open Go.Ev

structure Tk where
  at' : Int
  which : Int
  ack : Bool
def TkC (h : H) (cs : List Value) (t : Tk) : Prop := cs = [.int .i64 t.at', .int .i64 t.which, .bool t.ack]

theorem Rdr.rest {h : H} {N b r i : Nat} {g g' : H} {u w : Value} {ps : List Int} {bk : List (List Itm)} {q : Qm} {f : Nat} (o : Rdr h N b r i g u w ps bk q f) (k : Kept g g' []) : Rdr h N b r i g' u w ps bk q f :=
  o.move (k.weak (by simp)) (o.sq.frame k)

set_option maxHeartbeats 2000000 in
theorem swb_spec {F : Nat} (hF : 17592186044440 ≤ F) {h : H} {N b r i : Nat} {g : H} {u w : Value} {ps : List Int} {bk : List (List Itm)} {q : Qm} {f : Nat} (o : Rdr h N b r i g u w ps bk q f) (hi60 : i ≤ 60)
    {v t : Value} {has : Int} {n : Nat} {a wh : Int} {ack : Bool} {j : Int} {vl : Value} {l : List Itm} (hn : hget g n = some (.cells [.int .i64 a, .int .i64 wh, .bool ack] 0 true []))
    (hl : l ∈ bk) (sl : SlR (since N) 5 (ItmC (since N)) g vl l)
    {kn kr : K} {ke : Nat → K} {Q : Value → H → Prop}
    (hk : ∀ g2 (has2 : Int) (e : Env), Kept g g2 [] → Ans (kn ((2, v) :: (3, t) :: (9, .pointer (some ⟨b, 0, none⟩)) :: (11, u) :: (12, w) :: (13, .int .i64 has2) :: (14, .int .i64 j) :: (16, .pointer (some ⟨n, 0, none⟩)) :: e) g2 []) Q) :
    Ans (evC F (cf F) swb kn ke kr [(2, v), (3, t), (9, .pointer (some ⟨b, 0, none⟩)), (11, u), (12, w), (13, .int .i64 has), (14, .int .i64 j), (16, .pointer (some ⟨n, 0, none⟩)), (17, vl)] g []) Q := by
  have hns := lt_of_get hn
  have hll := sl.len
  have hlb := o.lb l hl
  have hlp := o.lp
  by_cases c1 : 0 ≤ wh
  · by_cases c2 : wh < l.length
    · obtain ⟨k, rfl⟩ := Int.eq_ofNat_of_zero_le c1
      obtain ⟨x, hx⟩ : ∃ x, l[k]? = some x := ⟨_, List.getElem?_eq_getElem (by omega)⟩
      obtain ⟨b', o', c', cs, es, lv, an, rfl, hk', hg', hle', hI⟩ := sl.at' hx
      obtain ⟨vt, vp, p5, p0, p1, p2, p3, p4, st, sp⟩ := id_at hI hle'
      have hgs' := lt_of_get hg'
      by_cases c3 : x.after ≤ has
      · by_cases c4 : has < x.stamp
        · have hto := st.one
          have hpo := sp.one
          simp only [oneCell] at hto hpo
          have kR := rowKept g [.int .i64 x.stamp, .int .i64 x.after, .bool x.marker, vt, vp] 0 []
          have oR := o.rest kR
          have hno : ∀ p ∈ ps, x.marker = false → ¬ (has < p ∧ p < x.stamp) := by
            intro p hp hm
            have := (o.hb l hl x (List.mem_of_getElem? hx)).2 hm p hp
            omega
          simp (disch := first | omega | (simp only [newRow_size, Array.size_setIfInBounds, Array.size_push]; done) | (simp only [newRow_size, Array.size_setIfInBounds, Array.size_push]; omega)) [swb, r12_19, hn, hll, c1, c2, hg', p1, p0, c3, c4, eqT, eqF, neT, neF, ltT, ltF, leT, leF, nltT, nltF, nleT, nleF, nneT, nneF, List.getElem?_cons_zero, List.getElem?_cons_succ, r12_20, p5, hto, hpo, r12_21]
          cases hm : x.marker with
          | true =>
            rw [hm] at kR
            simp (disch := first | omega | (simp only [newRow_size, Array.size_setIfInBounds, Array.size_push]; done) | (simp only [newRow_size, Array.size_setIfInBounds, Array.size_push]; omega)) [eqT, eqF, neT, neF, ltT, ltF, leT, leF, nltT, nltF, nleT, nleF, nneT, nneF, List.getElem?_cons_zero, List.getElem?_cons_succ, r12_23]
            exact hk _ _ _ kR
          | false =>
            rw [hm] at kR oR
            have hmi := miss_spec (F := F) (by omega) oR.us.sl (by omega) has x.stamp (fun p hp => hno p hp hm)
            simp (disch := first | omega | (simp only [newRow_size, Array.size_setIfInBounds, Array.size_push]; done) | (simp only [newRow_size, Array.size_setIfInBounds, Array.size_push]; omega)) [eqT, eqF, neT, neF, ltT, ltF, leT, leF, nltT, nltF, nleT, nleF, nneT, nneF, List.getElem?_cons_zero, List.getElem?_cons_succ, hmi, r12_23]
            exact hk _ _ _ kR
        · simp (disch := first | omega | (simp only [newRow_size, Array.size_setIfInBounds, Array.size_push]; done) | (simp only [newRow_size, Array.size_setIfInBounds, Array.size_push]; omega)) [swb, r12_19, hn, hll, c1, c2, hg', p1, p0, c3, c4, eqT, eqF, neT, neF, ltT, ltF, leT, leF, nltT, nltF, nleT, nleF, nneT, nneF, List.getElem?_cons_zero, List.getElem?_cons_succ]
          exact hk _ _ _ (Kept.refl _ _)
      · simp (disch := first | omega | (simp only [newRow_size, Array.size_setIfInBounds, Array.size_push]; done) | (simp only [newRow_size, Array.size_setIfInBounds, Array.size_push]; omega)) [swb, r12_19, hn, hll, c1, c2, hg', p1, p0, c3, eqT, eqF, neT, neF, ltT, ltF, leT, leF, nltT, nltF, nleT, nleF, nneT, nneF, List.getElem?_cons_zero, List.getElem?_cons_succ]
        exact hk _ _ _ (Kept.refl _ _)
    · simp (disch := first | omega | (simp only [newRow_size, Array.size_setIfInBounds, Array.size_push]; done) | (simp only [newRow_size, Array.size_setIfInBounds, Array.size_push]; omega)) [swb, r12_19, hn, hll, c1, c2, eqT, eqF, neT, neF, ltT, ltF, leT, leF, nltT, nltF, nleT, nleF, nneT, nneF, List.getElem?_cons_zero, List.getElem?_cons_succ]
      exact hk _ _ _ (Kept.refl _ _)
  · simp (disch := first | omega | (simp only [newRow_size, Array.size_setIfInBounds, Array.size_push]; done) | (simp only [newRow_size, Array.size_setIfInBounds, Array.size_push]; omega)) [swb, r12_19, hn, hll, c1, eqT, eqF, neT, neF, ltT, ltF, leT, leF, nltT, nltF, nleT, nleF, nneT, nneF, List.getElem?_cons_zero, List.getElem?_cons_succ]
    exact hk _ _ _ (Kept.refl _ _)

theorem Rdr.took {h : H} {N b r i : Nat} {g g' : H} {u w : Value} {ps : List Int} {bk : List (List Itm)} {q : Qm} {f f' : Nat} (o : Rdr h N b r i g u w ps bk q f) (stamp : Int) (k : Kept g g' [b, r]) (s : QAt (since N) g' b 0 (some r) f' (tookM q stamp).2) : Rdr h N b r i g' u w ps bk (tookM q stamp).2 f' := by
  have h1 := o.bl
  have h2 := o.rl
  have h3 := o.bh
  have h4 := o.rh
  have nb : ∀ c ∈ [b, r], ¬ since N c := by simp; omega
  have nbw : ∀ c ∈ [b, r], ¬ offU N u c := fun c hc q => nb c hc q.1
  have gt := o.gq.took stamp
  have hsub := (dropWhile_sub (fun x : Itm => decide (x.stamp ≤ stamp)) q.items).subset
  exact ⟨s, gt, ⟨by have := gt.len; have := gt.room; omega, fun y hy => o.sh.2 y (hsub hy)⟩, Kept.low o.kg k (by simp; omega), Nat.le_trans o.yg k.1, o.us.kept k nb (fun _ _ _ e => e), o.bs.kept k nbw (fun cs l _ e => e.imp (fun _ _ q => q) (keep_of k.c nb)), o.hp, o.hb, fun y hy => o.hi y (hsub hy), o.lp, o.lb, h3, h4, h1, h2, o.hN⟩

theorem bld_at {α : Type} {ok : Nat → Prop} {w : Nat} {R : H → List Value → α → Prop} {h : H} {v : Value} {xs : List α} (s : Bld ok w R h v xs) : Bld (fun c => ok c ∧ ∃ o n m, v = .slice (some ⟨c, o, none⟩) n m) w R h v xs := by
  rcases s with e | ⟨b, cs, an, e, hk, hb, hl, hi⟩
  · exact .inl e
  · exact .inr ⟨b, cs, an, e, ⟨hk, _, _, _, e⟩, hb, hl, hi⟩

/-- A book more. -/
theorem Rdr.book {h : H} {N b r i : Nat} {g : H} {u w : Value} {ps : List Int} {bk : List (List Itm)} {q : Qm} {f : Nat} (o : Rdr h N b r i g u w ps bk q f) (hlen : bk.length < 100) {vl : Value} (sl : SlR (since N) 5 (ItmC (since N)) g vl q.items) :
    Ans (appendTo g 1 24 w 1 [vl]) fun w2 g2 => Rdr h N b r i g2 u w2 ps (bk ++ [q.items]) q f := by
  have h1 := o.bl
  have h2 := o.rl
  have h3 := o.bh
  have h4 := o.rh
  have hyg := o.yg
  have hnew : offU N u g.size := by
    refine ⟨hyg, fun a n m e => ?_⟩
    rcases o.us with ⟨e', _⟩ | ⟨c, cs, an, e', _, hb, _⟩
    · rw [e'] at e; cases e
    · rw [e'] at e
      simp at e
      have := lt_of_get hb
      omega
  refine (o.bs.app (x := q.items) (bytes := 24) rfl (by omega) hnew (fun h' k cs l _ e => e.imp (fun _ _ q => q) (keep_of k (by simp))) (fun h' k => ⟨vl, rfl, SlItm.imp sl (fun _ _ q => q) (keep_of k (by simp))⟩)).mono ?_
  rintro w2 g2 ⟨b2, k2, y2, e2, d2⟩
  have nbw : ∀ c, ¬ offU N u c → ∀ o n m, w ≠ .slice (some ⟨c, o, none⟩) n m := fun c hc => o.bs.ne hc
  refine ⟨o.sq.keptC (e2 b (by omega) (nbw b (fun q => by have := q.1; omega))) (by rintro c e; cases e; exact e2 r (by omega) (nbw r (fun q => by have := q.1; omega))) k2, o.gq, o.sh, ⟨by have := o.kg.1; have := k2.1; omega, fun c hc _ => (e2 c (by have := o.kg.1; omega) (nbw c (fun q => by have := q.1; omega))).trans (o.kg.get hc (by simp))⟩, by have := k2.1; omega, ?_, b2, o.hp, ?_, o.hi, o.lp, ?_, h3, h4, h1, h2, o.hN⟩
  · refine bld_move (bld_at o.us) (fun c _ q => q.1) (fun c hc q => e2 c hc (nbw c ?_)) (fun _ _ _ e => e)
    rintro ⟨_, hne⟩
    obtain ⟨_, a, n, m, e⟩ := q
    exact hne a n m e
  · intro l hl
    rcases List.mem_append.1 hl with hl | hl
    · exact o.hb l hl
    · simp at hl; subst hl; exact o.hi
  · intro l hl
    rcases List.mem_append.1 hl with hl | hl
    · exact o.lb l hl
    · simp at hl; subst hl
      have := o.gq.len
      have := o.gq.room
      omega

end Go.Proofs.Ytkkagpchcefidaa
