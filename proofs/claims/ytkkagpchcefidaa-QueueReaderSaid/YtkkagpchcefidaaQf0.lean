/- QueueReader: the parts. -/
import Derived.Test.YtkkagpchcefidaaQe1
set_option linter.unusedSimpArgs false
set_option linter.unusedVariables false
namespace Go.Proofs.Ytkkagpchcefidaa
open Go.Ev

def swa : ACode := (.seq (.region r12_10 [2, 3, 9, 11, 12, 13, 14, 15, 59]) (.cond (.tmp 59) (.seq (.region r12_11 [2, 3, 9, 11, 12, 13, 14, 15, 67]) (.cond (.tmp 67) (.region r12_12 [2, 3, 9, 11, 12, 13, 14]) .skip)) (.seq (.region r12_13 [2, 3, 9, 11, 12, 13, 14, 15, 75]) (.cond (.tmp 75) (.region r12_14 [2, 3, 9, 11, 12, 13, 14]) .skip))))
def swb : ACode := (.seq (.region r12_19 [2, 3, 9, 11, 12, 13, 14, 16, 17, 138]) (.cond (.tmp 138) (.seq (.region r12_20 [2, 3, 9, 11, 12, 13, 14, 16, 18]) (.seq (.seq (.region r12_21 [2, 3, 9, 11, 12, 14, 16, 18, 153]) (.cond (.tmp 153) (.seq (.region r12_22 [8]) .ret) .skip)) (.region r12_23 [2, 3, 9, 11, 12, 13, 14, 16]))) .skip))
theorem l12_split : l12_27 = (.seq (.seq (.region r12_8 [2, 3, 9, 11, 12, 13, 14, 50]) (.cond (.tmp 50) .skip (.exit 0))) (.seq (.block 1 (.seq (.region r12_9 [2, 3, 9, 11, 12, 13, 14, 15]) (.seq swa (.seq (.region r12_15 [2, 3, 9, 11, 12, 13, 14]) (.seq (.seq (.region r12_16 [2, 3, 9, 11, 12, 13, 14, 90]) (.cond (.tmp 90) (.exit 1) .skip)) (.seq (.region r12_17 [2, 3, 9, 11, 12, 13, 14, 16]) (.seq (.region r12_18 [2, 3, 9, 11, 12, 13, 14, 16, 17]) (.seq swb (.seq (.region r12_24 [2, 3, 9, 11, 12, 13, 14, 157]) (.cond (.tmp 157) (.region r12_25 [2, 3, 9, 11, 12, 13, 14]) .skip)))))))))) (.region r12_26 [2, 3, 9, 11, 12, 13, 14]))) := rfl

theorem miss_spec {F : Nat} (hF : 100 ≤ F) {ok : Nat → Prop} {h : H} {v : Value} {ps : List Int} (s : SlR ok 1 IntC h v ps) (hl : ps.length ≤ 60) (lo hi : Int) (hno : ∀ p ∈ ps, ¬ (lo < p ∧ p < hi)) :
    cf F 31 [v, .int .i64 lo, .int .i64 hi] h = some (.bool false, h) := by
  have a : Ans (cf F 31 [v, .int .i64 lo, .int .i64 hi] h) fun u h' => u = .bool false ∧ h' = h := by
    generalize hQ : (fun (u : Value) (h' : H) => u = .bool false ∧ h' = h) = Q
    obtain ⟨F, rfl⟩ : ∃ G, F = G + 1 := ⟨F - 1, by omega⟩
    rw [cf_step (a := a31) rfl rfl (by simp [a31])]
    have hln := s.len
    simp (disch := first | omega | (simp only [newRow_size, Array.size_setIfInBounds, Array.size_push]; done) | (simp only [newRow_size, Array.size_setIfInBounds, Array.size_push]; omega)) [a31, r31_0, r31_1]
    refine loop_rule (fun m e g => ∃ (i : Nat), m = ps.length - i ∧ i ≤ ps.length ∧ e = [(0, v), (1, .int .i64 lo), (2, .int .i64 hi), (7, .int .i64 i)] ∧ g = h) ?_ _ ps.length _ _ (by omega) ⟨0, by omega, by omega, rfl, rfl⟩
    rintro m e g again ⟨i, rfl, hi', rfl, rfl⟩ ih
    have hw1 : IntKind.i64.wrap ((i : Int) + 1) = ((i + 1 : Nat) : Int) := by rw [wrap_id (by omega) (by omega)]; rfl
    by_cases hlt : i < ps.length
    · obtain ⟨p, hp⟩ : ∃ p, ps[i]? = some p := ⟨_, List.getElem?_eq_getElem hlt⟩
      obtain ⟨b, o, c, cs, es, lv, an, rfl, hk, hg, hle, hR⟩ := s.at' hp
      simp only [Nat.mul_one, IntC] at hle hR
      have hpn := hno p (List.mem_of_getElem? hp)
      by_cases h1 : lo < p
      · have h2 : ¬ p < hi := fun h2 => hpn ⟨h1, h2⟩
        simp (disch := first | omega | (simp only [newRow_size, Array.size_setIfInBounds, Array.size_push]; done) | (simp only [newRow_size, Array.size_setIfInBounds, Array.size_push]; omega)) [l31_6, r31_2, hln, r31_3, hg, hR, h1, h2, eqT, eqF, neT, neF, ltT, ltF, leT, leF, nltT, nltF, nleT, nleF, nneT, nneF, List.getElem?_cons_zero, List.getElem?_cons_succ, r31_5, hw1]
        exact ih (ps.length - (i + 1)) _ _ (by omega) ⟨i + 1, rfl, by omega, rfl, rfl⟩
      · simp (disch := first | omega | (simp only [newRow_size, Array.size_setIfInBounds, Array.size_push]; done) | (simp only [newRow_size, Array.size_setIfInBounds, Array.size_push]; omega)) [l31_6, r31_2, hln, r31_3, hg, hR, h1, eqT, eqF, neT, neF, ltT, ltF, leT, leF, nltT, nltF, nleT, nleF, nneT, nneF, List.getElem?_cons_zero, List.getElem?_cons_succ, r31_5, hw1]
        exact ih (ps.length - (i + 1)) _ _ (by omega) ⟨i + 1, rfl, by omega, rfl, rfl⟩
    · simp (disch := first | omega | (simp only [newRow_size, Array.size_setIfInBounds, Array.size_push]; done) | (simp only [newRow_size, Array.size_setIfInBounds, Array.size_push]; omega)) [l31_6, r31_2, hln, eqT, eqF, neT, neF, ltT, ltF, leT, leF, nltT, nltF, nleT, nleF, nneT, nneF, List.getElem?_cons_zero, List.getElem?_cons_succ, r31_7]
      subst hQ
      exact Ans.of ⟨rfl, rfl⟩
  obtain ⟨u, h', e, rfl, rfl⟩ := a
  exact e

/-- No event lies between an item and what it comes behind. -/
def Fine (ps : List Int) (last : Int) (x : Itm) : Prop := x.stamp ≤ last ∧ (x.marker = false → ∀ p ∈ ps, p ≤ x.after ∨ x.stamp ≤ p)

theorem Fine.more {ps : List Int} {last last' : Int} {x : Itm} (f : Fine ps last x) (hl : last ≤ last') : Fine ps last' x := ⟨Int.le_trans f.1 hl, f.2⟩
theorem Fine.put {ps : List Int} {last stamp : Int} {x : Itm} (f : Fine ps last x) (hl : last < stamp) : Fine (ps ++ [stamp]) stamp x := by
  refine ⟨Int.le_of_lt (Int.lt_of_le_of_lt f.1 hl), fun hm p hp => ?_⟩
  rcases List.mem_append.1 hp with hp | hp
  · exact f.2 hm p hp
  · simp at hp; subst hp
    exact .inr (Int.le_of_lt (Int.lt_of_le_of_lt f.1 hl))

def BookC (ok : Nat → Prop) (h : H) (cs : List Value) (l : List Itm) : Prop := ∃ v, cs = [v] ∧ SlR ok 5 (ItmC ok) h v l

/-- Blocks that are not that list's. -/
def offU (N : Nat) (u : Value) : Nat → Prop := fun c => N ≤ c ∧ ∀ o n m, u ≠ .slice (some ⟨c, o, none⟩) n m

theorem bld_move {α : Type} {ok ok' : Nat → Prop} {w : Nat} {R R' : H → List Value → α → Prop} {h h' : H} {v : Value} {xs : List α} (s : Bld ok w R h v xs) (h1 : ∀ b, b < h.size → ok b → ok' b) (h2 : ∀ b, b < h.size → ok b → hget h' b = hget h b) (hR : ∀ cs, ∀ x ∈ xs, R h cs x → R' h' cs x) : Bld ok' w R' h' v xs := by
  rcases s with e | ⟨b, cs, an, e, hk, hb, hl, hi⟩
  · exact .inl e
  · have hbs := lt_of_get hb
    exact .inr ⟨b, cs, an, e, h1 b hbs hk, (h2 b hbs hk).trans hb, hl, fun i x hx => hR _ x (List.mem_of_getElem? hx) (hi i x hx)⟩

structure Rdr (h : H) (N b r i : Nat) (g : H) (u w : Value) (ps : List Int) (bk : List (List Itm)) (q : Qm) (f : Nat) : Prop where
  sq : QAt (since N) g b 0 (some r) f q
  gq : q.Good
  sh : ShortI q.items
  kg : Kept h g []
  yg : N ≤ g.size
  us : Bld (since N) 1 IntC g u ps
  bs : Bld (offU N u) 1 (BookC (since N)) g w bk
  hp : ∀ p ∈ ps, p ≤ q.last
  hb : ∀ l ∈ bk, ∀ x ∈ l, Fine ps q.last x
  hi : ∀ x ∈ q.items, Fine ps q.last x
  lp : ps.length ≤ i
  lb : ∀ l ∈ bk, l.length ≤ 32
  bh : h.size ≤ b
  rh : h.size ≤ r
  bl : b < N
  rl : r < N
  hN : h.size ≤ N

theorem BookC.imp {ok ok' : Nat → Prop} {h h' : H} {cs : List Value} {l : List Itm} (s : BookC ok h cs l) (h1 : ∀ b, b < h.size → ok b → ok' b) (h3 : ∀ b cs, ok b → cel h b = some cs → cel h' b = some cs) : BookC ok' h' cs l := by
  obtain ⟨v, e, s⟩ := s
  exact ⟨v, e, SlItm.imp s h1 h3⟩

/-- What keeps all but the queue's own two blocks. -/
theorem Rdr.move {h : H} {N b r i : Nat} {g g' : H} {u w : Value} {ps : List Int} {bk : List (List Itm)} {q : Qm} {f f' : Nat} (o : Rdr h N b r i g u w ps bk q f) (k : Kept g g' [b, r]) (s : QAt (since N) g' b 0 (some r) f' q) : Rdr h N b r i g' u w ps bk q f' := by
  have h1 := o.bl
  have h2 := o.rl
  have h3 := o.bh
  have h4 := o.rh
  have nb : ∀ c ∈ [b, r], ¬ since N c := by simp; omega
  have nbw : ∀ c ∈ [b, r], ¬ offU N u c := fun c hc q => nb c hc q.1
  exact ⟨s, o.gq, o.sh, Kept.low o.kg k (by simp; omega), Nat.le_trans o.yg k.1, o.us.kept k nb (fun _ _ _ e => e), o.bs.kept k nbw (fun cs l _ e => e.imp (fun _ _ q => q) (keep_of k.c nb)), o.hp, o.hb, o.hi, o.lp, o.lb, h3, h4, h1, h2, o.hN⟩

set_option maxHeartbeats 2000000 in
theorem swa_spec {F : Nat} (hF : 17592186044440 ≤ F) {h : H} {N b r i : Nat} {g : H} {u w : Value} {ps : List Int} {bk : List (List Itm)} {q : Qm} {f : Nat} (o : Rdr h N b r i g u w ps bk q f) (hi60 : i < 60)
    {v t : Value} {has : Int} {n : Nat} {x : Stp} {vt vp : Value} (hn : hget g n = some (.cells [.int .i64 x.kind, .int .i64 x.on, .int .i64 x.stamp, vt, vp] 0 true [])) (hnN : N ≤ n)
    (st : SlR (fun b => b < h.size) 5 (TgdC (fun b => b < h.size)) g vt x.chgs) (sp : SlR (fun b => b < h.size) 5 (PrtC (fun b => b < h.size)) g vp x.prts) (hs : x.Short)
    {kn kr : K} {ke : Nat → K} {Q : Value → H → Prop}
    (hk : ∀ g2 u2 ps2 q2 f2 (e : Env), Rdr h N b r (i + 1) g2 u2 w ps2 bk q2 f2 → Ans (kn ((2, v) :: (3, t) :: (9, .pointer (some ⟨b, 0, none⟩)) :: (11, u2) :: (12, w) :: (13, .int .i64 has) :: (14, .int .i64 i) :: e) g2 []) Q) :
    Ans (evC F (cf F) swa kn ke kr [(2, v), (3, t), (9, .pointer (some ⟨b, 0, none⟩)), (11, u), (12, w), (13, .int .i64 has), (14, .int .i64 i), (15, .pointer (some ⟨n, 0, none⟩))] g []) Q := by
  have hns := lt_of_get hn
  have hbh := o.bh
  have hrh := o.rh
  have hbl := o.bl
  have hrl := o.rl
  have hhN := o.hN
  have hyg := o.yg
  have hgl := o.gq.len
  have hgr := o.gq.room
  have hlp := o.lp
  have hnl : n ∉ b :: (some r).toList := by simp; omega
  have nb : ∀ c ∈ [b, r], ¬ since N c := by simp; omega
  have nbw : ∀ c ∈ [b, r], ¬ offU N u c := fun c hc q => nb c hc q.1
  have next : ∀ {g u ps q f}, Rdr h N b r i g u w ps bk q f → Rdr h N b r (i + 1) g u w ps bk q f := fun o => ⟨o.sq, o.gq, o.sh, o.kg, o.yg, o.us, o.bs, o.hp, o.hb, o.hi, by have := o.lp; omega, o.lb, o.bh, o.rh, o.bl, o.rl, o.hN⟩
  by_cases h1 : x.kind = 1
  · simp (disch := first | omega | (simp only [newRow_size, Array.size_setIfInBounds, Array.size_push]; done) | (simp only [newRow_size, Array.size_setIfInBounds, Array.size_push]; omega)) [swa, r12_10, r12_11, hn, h1, eqT, eqF, neT, neF, ltT, ltF, leT, leF, nltT, nltF, nleT, nleF, nneT, nneF, List.getElem?_cons_zero, List.getElem?_cons_succ]
    refine Ans.next (Put_spec (F := F) (by omega) o.sq o.gq st (by simp; omega) hs.1 (fun c hc => by show N ≤ c; omega) x.stamp) ?_
    rintro y g2 ⟨rfl, s2, k2⟩
    have y2 := k2.1
    have hn2 := (k2.get hns hnl).trans hn
    have g2' := o.gq.put x.stamp x.chgs
    rcases putM_cases q x.stamp x.chgs with e | ⟨e, hlast, _⟩
    · rw [e] at s2
      have o2 := o.move k2 s2
      by_cases hc : (putM q x.stamp x.chgs).1 = 0
      · exfalso
        unfold putM at hc e
        split at hc
        · rename_i h0; exact h0 hc
        · split at hc
          · simp at hc
          · split at hc
            · simp at hc
            · rename_i a1 a2 a3
              rw [if_neg a1, if_neg a2, if_neg a3] at e
              have := congrArg (fun z => z.items.length) e
              simp at this
      · simp (disch := first | omega | (simp only [newRow_size, Array.size_setIfInBounds, Array.size_push]; done) | (simp only [newRow_size, Array.size_setIfInBounds, Array.size_push]; omega)) [hc, num_eq (F := F) (by omega), eqT, eqF, neT, neF, ltT, ltF, leT, leF, nltT, nltF, nleT, nleF, nneT, nneF, List.getElem?_cons_zero, List.getElem?_cons_succ]
        exact hk _ _ _ _ _ _ (next o2)
    · rw [e] at s2 g2'
      have us2 := o.us.kept k2 nb (fun _ _ _ e => e)
      have bs2 := o.bs.kept k2 nbw (fun cs l _ e => e.imp (fun _ _ q => q) (keep_of k2.c nb))
      have ks2 := Kept.low o.kg k2 (by simp; omega)
      simp (disch := first | omega | (simp only [newRow_size, Array.size_setIfInBounds, Array.size_push]; done) | (simp only [newRow_size, Array.size_setIfInBounds, Array.size_push]; omega)) [e, num_eq (F := F) (by omega), eqT, eqF, neT, neF, ltT, ltF, leT, leF, nltT, nltF, nleT, nleF, nneT, nneF, List.getElem?_cons_zero, List.getElem?_cons_succ, r12_12, hn2, srcOf]
      have kR := rowKept g2 [.int .i64 x.stamp] 1 []
      have usR := us2.kept kR (by simp) (fun _ _ _ e => e)
      have bsR := bs2.kept kR (by simp) (fun cs l _ e => e.imp (fun _ _ q => q) (keep_of kR.c (by simp)))
      have sR := s2.frame kR
      refine Ans.next (usR.app (x := x.stamp) (bytes := 8) rfl (by omega) (by show N ≤ _; exact (by first | omega | (simp only [newRow_size, Array.size_setIfInBounds, Array.size_push]; done) | (simp only [newRow_size, Array.size_setIfInBounds, Array.size_push]; omega))) (fun _ _ _ _ _ e => e) (fun _ _ => rfl)) ?_
      rintro u3 g3 ⟨b3, k3, y3, e3, d3⟩
      have yR : (Ev.newRow g2 [.int .i64 x.stamp] 1 []).size = g2.size + 1 := by simp
      have y3' := k3.1
      simp (disch := first | omega | (simp only [newRow_size, Array.size_setIfInBounds, Array.size_push]; done) | (simp only [newRow_size, Array.size_setIfInBounds, Array.size_push]; omega)) []
      refine hk g3 u3 (ps ++ [x.stamp]) _ _ _ ⟨sR.keptC (e3 b (by omega) (usR.ne (by simp; omega))) (by rintro c e; cases e; exact e3 r (by omega) (usR.ne (by simp; omega))) k3, g2', ?_, ?_, by omega, b3, ?_, ?_, fun l hl y hy => (o.hb l hl y hy).put hlast, ?_, by simp; omega, o.lb, hbh, hrh, hbl, hrl, hhN⟩
      · have gl := g2'.len
        have gr := g2'.room
        refine ⟨by omega, fun y hy => ?_⟩
        rcases List.mem_append.1 hy with hy | hy
        · exact o.sh.2 y hy
        · simp at hy; subst hy
          exact ⟨hs.1, by simp [ShortP]⟩
      · refine ⟨by have := ks2.1; omega, fun c hc _ => (e3 c (by have := ks2.1; omega) (usR.ne (by simp; omega))).trans ?_⟩
        have := ks2.1
        have e : hget (Ev.newRow g2 [.int .i64 x.stamp] 1 []) c = hget g2 c := by simp (disch := first | omega | (simp only [newRow_size, Array.size_setIfInBounds, Array.size_push]; done) | (simp only [newRow_size, Array.size_setIfInBounds, Array.size_push]; omega)) []
        exact e.trans (ks2.get hc (by simp))
      · refine bld_move bsR (fun c hc q => ⟨q.1, ?_⟩) (fun c hc q => e3 c hc q.2) (fun cs l _ e => e.imp (fun _ _ q => q) (keep_of k3 (by simp)))
        rcases d3 with rfl | ⟨n', c', rfl⟩
        · exact q.2
        · intro o n m e
          simp at e
          omega
      · intro p hp
        rcases List.mem_append.1 hp with hp | hp
        · exact Int.le_of_lt (Int.lt_of_le_of_lt (o.hp p hp) hlast)
        · simp at hp; subst hp; exact Int.le_refl _
      · intro y hy
        rcases List.mem_append.1 hy with hy | hy
        · exact (o.hi y hy).put hlast
        · simp at hy; subst hy
          refine ⟨Int.le_refl _, fun _ p hp => ?_⟩
          rcases List.mem_append.1 hp with hp | hp
          · exact .inl (o.hp p hp)
          · simp at hp; subst hp; exact .inr (Int.le_refl _)
  · by_cases h2 : x.kind = 2
    · simp (disch := first | omega | (simp only [newRow_size, Array.size_setIfInBounds, Array.size_push]; done) | (simp only [newRow_size, Array.size_setIfInBounds, Array.size_push]; omega)) [swa, r12_10, r12_13, r12_14, hn, h2, eqT, eqF, neT, neF, ltT, ltF, leT, leF, nltT, nltF, nleT, nleF, nneT, nneF, List.getElem?_cons_zero, List.getElem?_cons_succ]
      refine Ans.next (Collapse_spec (F := F) (by omega) o.sq o.gq sp (by simp; omega) (by rintro c e; cases e; simp; omega) hs.2 (fun c hc => by show N ≤ c; omega) x.stamp) ?_
      rintro y g2 ⟨f2, rfl, s2, k2⟩
      have g2' := o.gq.coll x.stamp x.prts
      simp (disch := first | omega | (simp only [newRow_size, Array.size_setIfInBounds, Array.size_push]; done) | (simp only [newRow_size, Array.size_setIfInBounds, Array.size_push]; omega)) []
      have us2 := o.us.kept k2 nb (fun _ _ _ e => e)
      have bs2 := o.bs.kept k2 nbw (fun cs l _ e => e.imp (fun _ _ q => q) (keep_of k2.c nb))
      have ks2 := Kept.low o.kg k2 (by simp; omega)
      have y2 := k2.1
      rcases collM_cases q x.stamp x.prts with e | ⟨e, hlast, _⟩
      · rw [e] at s2
        exact hk _ _ _ _ _ _ (next (o.move k2 s2))
      · rw [e] at s2 g2'
        refine hk _ _ _ _ _ _ ⟨s2, g2', ⟨by simp, ?_⟩, ks2, by omega, us2, bs2, fun p hp => Int.le_of_lt (Int.lt_of_le_of_lt (o.hp p hp) hlast), fun l hl y hy => (o.hb l hl y hy).more (Int.le_of_lt hlast), ?_, by omega, o.lb, hbh, hrh, hbl, hrl, hhN⟩
        · intro y hy
          simp at hy; subst hy
          exact ⟨by simp [ShortT], hs.2⟩
        · intro y hy
          simp at hy; subst hy
          exact ⟨Int.le_refl _, by simp⟩
    · simp (disch := first | omega | (simp only [newRow_size, Array.size_setIfInBounds, Array.size_push]; done) | (simp only [newRow_size, Array.size_setIfInBounds, Array.size_push]; omega)) [swa, r12_10, r12_13, hn, h1, h2, eqT, eqF, neT, neF, ltT, ltF, leT, leF, nltT, nltF, nleT, nleF, nneT, nneF, List.getElem?_cons_zero, List.getElem?_cons_succ]
      exact hk _ _ _ _ _ _ (next o)

end Go.Proofs.Ytkkagpchcefidaa
