/- copiedChanges, copiedParts; the document's copies. -/
import Derived.Test.YtkkagpchcefidaaQc0
set_option linter.unusedSimpArgs false
set_option linter.unusedVariables false
namespace Go.Proofs.Ytkkagpchcefidaa
open Go.Ev

theorem take_snoc {α : Type} {xs : List α} {i : Nat} {x : α} (hx : xs[i]? = some x) : xs.take (i + 1) = xs.take i ++ [x] := by
  rw [List.take_add_one, hx]; rfl

theorem since_lt {N : Nat} {h : H} (hN : N ≤ h.size) : since N h.size := hN

/-- A list of tagged changes of which each list of tags is short. -/
def ShortT (xs : List Tgd) : Prop := xs.length ≤ 1954687338268 ∧ ∀ t ∈ xs, t.tags.length ≤ 17592186044416
def ShortP (xs : List Prt) : Prop := xs.length ≤ 2199023255552 ∧ ∀ t ∈ xs, t.nodes.length ≤ 3518437208883

def CopyT (h : H) (xs : List Tgd) (v : Value) (h' : H) : Prop := Bld (since h.size) 5 (TgdC (since h.size)) h' v xs ∧ Kept h h' []
def CopyP (h : H) (xs : List Prt) (v : Value) (h' : H) : Prop := Bld (since h.size) 5 (PrtC (since h.size)) h' v xs ∧ Kept h h' []

theorem copiedChanges_spec {F : Nat} (hF : 17592186044420 ≤ F) {ok : Nat → Prop} {h : H} {v : Value} {xs : List Tgd} (s : SlR ok 5 (TgdC ok) h v xs) (hs : ShortT xs) : Ans (cf F 44 [v] h) (CopyT h xs) := by
  obtain ⟨F, rfl⟩ : ∃ G, F = G + 1 := ⟨F - 1, by omega⟩
  obtain ⟨hs1, hs2⟩ := hs
  rw [cf_step (a := a44) rfl rfl (by simp [a44])]
  have hl := s.len
  simp (disch := first | omega | (simp only [newRow_size, Array.size_setIfInBounds, Array.size_push]; done) | (simp only [newRow_size, Array.size_setIfInBounds, Array.size_push]; omega)) [a44, r44_0, r44_1, r44_2, hl, eqT, eqF, neT, neF, ltT, ltF, leT, leF, nltT, nltF, nleT, nleF, nneT, nneF, flipX, List.getElem?_cons_zero, List.getElem?_cons_succ]
  refine loop_rule (fun m e g => ∃ (i : Nat) (u : Value), m = xs.length - i ∧ i ≤ xs.length ∧ e = [(3, u), (6, v), (7, .int .i64 xs.length), (8, .int .i64 i)] ∧ Kept h g [] ∧ Bld (since h.size) 5 (TgdC (since h.size)) g u (xs.take i)) ?_ _ xs.length _ _ (by omega) ⟨0, _, by omega, by omega, rfl, Kept.refl _ _, Bld.nil _ _ _ _⟩
  rintro m e g again ⟨i, u, rfl, hi, rfl, kg, bu⟩ ih
  by_cases hlt : i < xs.length
  · obtain ⟨x, hx⟩ : ∃ x, xs[i]? = some x := ⟨_, List.getElem?_eq_getElem hlt⟩
    have sg := SlTgd.imp s (ok' := ok) (fun _ _ q => q) (keep_of kg.c (by simp))
    obtain ⟨b, o, c, cs, es, lv, an, rfl, hk, hg, hle, vt, hat, st⟩ := sg.at' hx
    have hgs := lt_of_get hg
    have hto := st.one
    simp only [oneCell] at hto
    have hw : IntKind.i64.wrap ((i : Int) + 1) = ((i + 1 : Nat) : Int) := by rw [IntKind.wrap_i64]; omega
    simp (disch := first | omega | (simp only [newRow_size, Array.size_setIfInBounds, Array.size_push]; done) | (simp only [newRow_size, Array.size_setIfInBounds, Array.size_push]; omega)) [l44_8, r44_3, r44_4, hg, hat, hto, eqT, eqF, neT, neF, ltT, ltF, leT, leF, nltT, nltF, nleT, nleF, nneT, nneF, flipX, List.getElem?_cons_zero, List.getElem?_cons_succ, r44_5]
    have yg := kg.1
    refine Ans.next (cloneI_spec (F := F) (by omega) (SlInt.imp st (ok' := ok) (fun _ _ q => q) (keep_of (rowKept _ _ _ _).c (by simp))) (hs2 x (List.mem_of_getElem? hx))) ?_
    rintro v2 h2 ⟨bt, k2⟩
    have y2 := k2.1
    have g2 := fun c => k2.get (b := c)
    simp only [List.not_mem_nil, not_false_eq_true, forall_const, newRow_size] at g2 y2
    have hto2 := bt.sl.one
    have hvc2 := bt.sl.vc
    simp only [oneCell] at hto2
    simp only [vcells] at hvc2
    simp (disch := first | omega | (simp only [newRow_size, Array.size_setIfInBounds, Array.size_push]; done) | (simp only [newRow_size, Array.size_setIfInBounds, Array.size_push]; omega)) [g2, hto2, hvc2, eqT, eqF, neT, neF, ltT, ltF, leT, leF, nltT, nltF, nleT, nleF, nneT, nneF, flipX, List.getElem?_cons_zero, List.getElem?_cons_succ, r44_6, srcOf]
    have kE : Kept h (Ev.newRow (Array.setIfInBounds h2 g.size (.cells [.int .i64 x.chg.kind, .string x.chg.place, .string x.chg.data, .int .i64 x.chg.ver, v2] 0 true [])) [.int .i64 x.chg.kind, .string x.chg.place, .string x.chg.data, .int .i64 x.chg.ver, v2] 5 []) [] := ⟨(by first | omega | (simp only [newRow_size, Array.size_setIfInBounds, Array.size_push]; done) | (simp only [newRow_size, Array.size_setIfInBounds, Array.size_push]; omega)), fun c hc _ => by
      simp (disch := first | omega | (simp only [newRow_size, Array.size_setIfInBounds, Array.size_push]; done) | (simp only [newRow_size, Array.size_setIfInBounds, Array.size_push]; omega)) [g2]
      exact kg.get hc (by simp)⟩
    have bE : Bld (since h.size) 5 (TgdC (since h.size)) (Ev.newRow (Array.setIfInBounds h2 g.size (.cells [.int .i64 x.chg.kind, .string x.chg.place, .string x.chg.data, .int .i64 x.chg.ver, v2] 0 true [])) [.int .i64 x.chg.kind, .string x.chg.place, .string x.chg.data, .int .i64 x.chg.ver, v2] 5 []) u (xs.take i) := by
      refine bu.kept (L := []) ⟨(by first | omega | (simp only [newRow_size, Array.size_setIfInBounds, Array.size_push]; done) | (simp only [newRow_size, Array.size_setIfInBounds, Array.size_push]; omega)), fun c hc _ => by simp (disch := first | omega | (simp only [newRow_size, Array.size_setIfInBounds, Array.size_push]; done) | (simp only [newRow_size, Array.size_setIfInBounds, Array.size_push]; omega)) [g2]⟩ (by simp) (fun cs t _ q => TgdC.imp q (fun _ _ q => q) (keep_of (L := []) ⟨(by first | omega | (simp only [newRow_size, Array.size_setIfInBounds, Array.size_push]; done) | (simp only [newRow_size, Array.size_setIfInBounds, Array.size_push]; omega)), fun c hc _ => cel_congr (by simp (disch := first | omega | (simp only [newRow_size, Array.size_setIfInBounds, Array.size_push]; done) | (simp only [newRow_size, Array.size_setIfInBounds, Array.size_push]; omega)) [g2])⟩ (by simp)))
    have sE : SlR (since h.size) 1 IntC (Ev.newRow (Array.setIfInBounds h2 g.size (.cells [.int .i64 x.chg.kind, .string x.chg.place, .string x.chg.data, .int .i64 x.chg.ver, v2] 0 true [])) [.int .i64 x.chg.kind, .string x.chg.place, .string x.chg.data, .int .i64 x.chg.ver, v2] 5 []) v2 x.tags := by
      refine SlInt.imp bt.sl (fun b _ hb => ?_) (fun b cs hb hc => ?_)
      · have : g.size + 1 ≤ b := by simpa using hb
        show h.size ≤ b
        omega
      · have hb' : g.size + 1 ≤ b := by simpa using hb
        have := cel_lt hc
        rw [← hc]
        exact cel_congr (by simp (disch := first | omega | (simp only [newRow_size, Array.size_setIfInBounds, Array.size_push]; done) | (simp only [newRow_size, Array.size_setIfInBounds, Array.size_push]; omega)) [])
    refine Ans.next (bE.app (x := x) (bytes := 72) rfl ?_ ?_ ?_ ?_) ?_
    · rw [List.length_take]; omega
    · show h.size ≤ _; exact (by first | omega | (simp only [newRow_size, Array.size_setIfInBounds, Array.size_push]; done) | (simp only [newRow_size, Array.size_setIfInBounds, Array.size_push]; omega))
    · exact fun h' k cs y _ q => TgdC.imp q (fun _ _ q => q) (keep_of k (by simp))
    · exact fun h' k => ⟨v2, rfl, SlInt.imp sE (fun _ _ q => q) (keep_of k (by simp))⟩
    rintro u' h3 ⟨b3, k3, y3, g3, _⟩
    simp (disch := first | omega | (simp only [newRow_size, Array.size_setIfInBounds, Array.size_push]; done) | (simp only [newRow_size, Array.size_setIfInBounds, Array.size_push]; omega)) [r44_7, hw, eqT, eqF, neT, neF, ltT, ltF, leT, leF, nltT, nltF, nleT, nleF, nneT, nneF, flipX, List.getElem?_cons_zero, List.getElem?_cons_succ]
    refine ih (xs.length - (i + 1)) _ _ (by omega) ⟨i + 1, u', rfl, by omega, rfl, ?_, by rw [take_snoc hx]; exact b3⟩
    exact ⟨by have := kE.1; have := k3.1; omega, fun c hc _ => (g3 c (by have := kE.1; omega) (bE.ne (by simp; omega))).trans (kE.get hc (by simp))⟩
  · have hxi : i = xs.length := by omega
    subst hxi
    rw [List.take_length] at bu
    simp (disch := first | omega | (simp only [newRow_size, Array.size_setIfInBounds, Array.size_push]; done) | (simp only [newRow_size, Array.size_setIfInBounds, Array.size_push]; omega)) [l44_8, r44_3, r44_9, eqT, eqF, neT, neF, ltT, ltF, leT, leF, nltT, nltF, nleT, nleF, nneT, nneF, flipX, List.getElem?_cons_zero, List.getElem?_cons_succ]
    exact Ans.of ⟨bu, kg⟩

theorem copiedParts_spec {F : Nat} (hF : 17592186044420 ≤ F) {ok : Nat → Prop} {h : H} {v : Value} {xs : List Prt} (s : SlR ok 5 (PrtC ok) h v xs) (hs : ShortP xs) : Ans (cf F 45 [v] h) (CopyP h xs) := by
  obtain ⟨F, rfl⟩ : ∃ G, F = G + 1 := ⟨F - 1, by omega⟩
  obtain ⟨hs1, hs2⟩ := hs
  rw [cf_step (a := a45) rfl rfl (by simp [a45])]
  have hl := s.len
  simp (disch := first | omega | (simp only [newRow_size, Array.size_setIfInBounds, Array.size_push]; done) | (simp only [newRow_size, Array.size_setIfInBounds, Array.size_push]; omega)) [a45, r45_0, r45_1, r45_2, hl, eqT, eqF, neT, neF, ltT, ltF, leT, leF, nltT, nltF, nleT, nleF, nneT, nneF, flipX, List.getElem?_cons_zero, List.getElem?_cons_succ]
  refine loop_rule (fun m e g => ∃ (i : Nat) (u : Value), m = xs.length - i ∧ i ≤ xs.length ∧ e = [(3, u), (6, v), (7, .int .i64 xs.length), (8, .int .i64 i)] ∧ Kept h g [] ∧ Bld (since h.size) 5 (PrtC (since h.size)) g u (xs.take i)) ?_ _ xs.length _ _ (by omega) ⟨0, _, by omega, by omega, rfl, Kept.refl _ _, Bld.nil _ _ _ _⟩
  rintro m e g again ⟨i, u, rfl, hi, rfl, kg, bu⟩ ih
  by_cases hlt : i < xs.length
  · obtain ⟨x, hx⟩ : ∃ x, xs[i]? = some x := ⟨_, List.getElem?_eq_getElem hlt⟩
    have sg := SlPrt.imp s (ok' := ok) (fun _ _ q => q) (keep_of kg.c (by simp))
    obtain ⟨b, o, c, cs, es, lv, an, rfl, hk, hg, hle, vt, hat, st⟩ := sg.at' hx
    have hgs := lt_of_get hg
    have hto := st.one
    simp only [oneCell] at hto
    have hw : IntKind.i64.wrap ((i : Int) + 1) = ((i + 1 : Nat) : Int) := by rw [IntKind.wrap_i64]; omega
    simp (disch := first | omega | (simp only [newRow_size, Array.size_setIfInBounds, Array.size_push]; done) | (simp only [newRow_size, Array.size_setIfInBounds, Array.size_push]; omega)) [l45_8, r45_3, r45_4, hg, hat, hto, eqT, eqF, neT, neF, ltT, ltF, leT, leF, nltT, nltF, nleT, nleF, nneT, nneF, flipX, List.getElem?_cons_zero, List.getElem?_cons_succ, r45_5]
    have yg := kg.1
    refine Ans.next (cloneS_spec (F := F) (by omega) (SlSeen.imp st (ok' := ok) (fun _ _ q => q) (keep_of (rowKept _ _ _ _).c (by simp))) (hs2 x (List.mem_of_getElem? hx))) ?_
    rintro v2 h2 ⟨bt, k2⟩
    have y2 := k2.1
    have g2 := fun c => k2.get (b := c)
    simp only [List.not_mem_nil, not_false_eq_true, forall_const, newRow_size] at g2 y2
    have hto2 := bt.sl.one
    have hvc2 := bt.sl.vc
    simp only [oneCell] at hto2
    simp only [vcells] at hvc2
    simp (disch := first | omega | (simp only [newRow_size, Array.size_setIfInBounds, Array.size_push]; done) | (simp only [newRow_size, Array.size_setIfInBounds, Array.size_push]; omega)) [g2, hto2, hvc2, eqT, eqF, neT, neF, ltT, ltF, leT, leF, nltT, nltF, nleT, nleF, nneT, nneF, flipX, List.getElem?_cons_zero, List.getElem?_cons_succ, r45_6, srcOf]
    have kE : Kept h (Ev.newRow (Array.setIfInBounds h2 g.size (.cells [.int .i64 x.id, .int .i64 x.stamp, .string x.place, .int .i64 x.kind, v2] 0 true [])) [.int .i64 x.id, .int .i64 x.stamp, .string x.place, .int .i64 x.kind, v2] 5 []) [] := ⟨(by first | omega | (simp only [newRow_size, Array.size_setIfInBounds, Array.size_push]; done) | (simp only [newRow_size, Array.size_setIfInBounds, Array.size_push]; omega)), fun c hc _ => by
      simp (disch := first | omega | (simp only [newRow_size, Array.size_setIfInBounds, Array.size_push]; done) | (simp only [newRow_size, Array.size_setIfInBounds, Array.size_push]; omega)) [g2]
      exact kg.get hc (by simp)⟩
    have bE : Bld (since h.size) 5 (PrtC (since h.size)) (Ev.newRow (Array.setIfInBounds h2 g.size (.cells [.int .i64 x.id, .int .i64 x.stamp, .string x.place, .int .i64 x.kind, v2] 0 true [])) [.int .i64 x.id, .int .i64 x.stamp, .string x.place, .int .i64 x.kind, v2] 5 []) u (xs.take i) := by
      refine bu.kept (L := []) ⟨(by first | omega | (simp only [newRow_size, Array.size_setIfInBounds, Array.size_push]; done) | (simp only [newRow_size, Array.size_setIfInBounds, Array.size_push]; omega)), fun c hc _ => by simp (disch := first | omega | (simp only [newRow_size, Array.size_setIfInBounds, Array.size_push]; done) | (simp only [newRow_size, Array.size_setIfInBounds, Array.size_push]; omega)) [g2]⟩ (by simp) (fun cs t _ q => PrtC.imp q (fun _ _ q => q) (keep_of (L := []) ⟨(by first | omega | (simp only [newRow_size, Array.size_setIfInBounds, Array.size_push]; done) | (simp only [newRow_size, Array.size_setIfInBounds, Array.size_push]; omega)), fun c hc _ => cel_congr (by simp (disch := first | omega | (simp only [newRow_size, Array.size_setIfInBounds, Array.size_push]; done) | (simp only [newRow_size, Array.size_setIfInBounds, Array.size_push]; omega)) [g2])⟩ (by simp)))
    have sE : SlR (since h.size) 3 SeenC (Ev.newRow (Array.setIfInBounds h2 g.size (.cells [.int .i64 x.id, .int .i64 x.stamp, .string x.place, .int .i64 x.kind, v2] 0 true [])) [.int .i64 x.id, .int .i64 x.stamp, .string x.place, .int .i64 x.kind, v2] 5 []) v2 x.nodes := by
      refine SlSeen.imp bt.sl (fun b _ hb => ?_) (fun b cs hb hc => ?_)
      · have : g.size + 1 ≤ b := by simpa using hb
        show h.size ≤ b
        omega
      · have hb' : g.size + 1 ≤ b := by simpa using hb
        have := cel_lt hc
        rw [← hc]
        exact cel_congr (by simp (disch := first | omega | (simp only [newRow_size, Array.size_setIfInBounds, Array.size_push]; done) | (simp only [newRow_size, Array.size_setIfInBounds, Array.size_push]; omega)) [])
    refine Ans.next (bE.app (x := x) (bytes := 64) rfl ?_ ?_ ?_ ?_) ?_
    · rw [List.length_take]; omega
    · show h.size ≤ _; exact (by first | omega | (simp only [newRow_size, Array.size_setIfInBounds, Array.size_push]; done) | (simp only [newRow_size, Array.size_setIfInBounds, Array.size_push]; omega))
    · exact fun h' k cs y _ q => PrtC.imp q (fun _ _ q => q) (keep_of k (by simp))
    · exact fun h' k => ⟨v2, rfl, SlSeen.imp sE (fun _ _ q => q) (keep_of k (by simp))⟩
    rintro u' h3 ⟨b3, k3, y3, g3, _⟩
    simp (disch := first | omega | (simp only [newRow_size, Array.size_setIfInBounds, Array.size_push]; done) | (simp only [newRow_size, Array.size_setIfInBounds, Array.size_push]; omega)) [r45_7, hw, eqT, eqF, neT, neF, ltT, ltF, leT, leF, nltT, nltF, nleT, nleF, nneT, nneF, flipX, List.getElem?_cons_zero, List.getElem?_cons_succ]
    refine ih (xs.length - (i + 1)) _ _ (by omega) ⟨i + 1, u', rfl, by omega, rfl, ?_, by rw [take_snoc hx]; exact b3⟩
    exact ⟨by have := kE.1; have := k3.1; omega, fun c hc _ => (g3 c (by have := kE.1; omega) (bE.ne (by simp; omega))).trans (kE.get hc (by simp))⟩
  · have hxi : i = xs.length := by omega
    subst hxi
    rw [List.take_length] at bu
    simp (disch := first | omega | (simp only [newRow_size, Array.size_setIfInBounds, Array.size_push]; done) | (simp only [newRow_size, Array.size_setIfInBounds, Array.size_push]; omega)) [l45_8, r45_3, r45_9, eqT, eqF, neT, neF, ltT, ltF, leT, leF, nltT, nltF, nleT, nleF, nneT, nneF, flipX, List.getElem?_cons_zero, List.getElem?_cons_succ]
    exact Ans.of ⟨bu, kg⟩

end Go.Proofs.Ytkkagpchcefidaa
