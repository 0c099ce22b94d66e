/- The program's queue: Collapse. -/
import Derived.Test.YtkkagpchcefidaaQb3
set_option linter.unusedSimpArgs false
set_option linter.unusedVariables false
namespace Go.Proofs.Ytkkagpchcefidaa
open Go.Ev

def CollPost (ok : Nat → Prop) (h : H) (b : Nat) (r : Option Nat) (c : Int) (q' : Qm) (u : Value) (h' : H) : Prop :=
  ∃ first', PutPost ok h b r c q' first' u h'

theorem Collapse_spec {F : Nat} (hF : 17592186044430 ≤ F) {ok ok2 : Nat → Prop} {h : H} {b : Nat} {r : Option Nat} {first : Nat} {q : Qm} (s : QAt ok h b 0 r first q) (g : q.Good) {v : Value} {l : List Prt}
    (sl : SlR ok2 5 (PrtC ok2) h v l) (hb2 : ¬ ok2 b) (hr2 : ∀ c, r = some c → ¬ ok2 c) (hs : ShortP l) (hok : ∀ c, h.size ≤ c → ok c) (stamp : Int) :
    Ans (cf F 29 [.pointer (some ⟨b, 0, none⟩), .int .i64 stamp, v] h) (CollPost ok h b r (collM q stamp l).1 (collM q stamp l).2) := by
  obtain ⟨F, rfl⟩ : ∃ G, F = G + 1 := ⟨F - 1, by omega⟩
  rw [cf_step (a := a29) rfl rfl (by simp [a29])]
  obtain ⟨s1, k1⟩ := s.lock 1
  simp (disch := first | omega | (simp only [newRow_size, Array.size_setIfInBounds, Array.size_push]; done) | (simp only [newRow_size, Array.size_setIfInBounds, Array.size_push]; omega)) [a29, r29_0, r29_1, r29_2, evP_call, held_eq (F := F) (by omega) s, deferK_v, deferV_fn, eqT, eqF, neT, neF, ltT, ltF, leT, leF, nltT, nltF, nleT, nleF, nneT, nneF, List.getElem?_cons_zero, List.getElem?_cons_succ]
  have sl1 := SlPrt.imp sl (ok' := ok2) (fun _ _ q => q) (keep_of k1.c (by simpa using hb2))
  have y1 : (h.setIfInBounds b (.cells (qcells 1 r first q) 0 true [])).size = h.size := by simp
  generalize h.setIfInBounds b (.cells (qcells 1 r first q) 0 true []) = h1 at s1 k1 sl1 y1 ⊢
  have hl := sl1.len
  have fin : ∀ (c : Int) (q' : Qm) (f' : Nat) (h2 : H), collM q stamp l = (c, q') → QAt ok h2 b 1 r f' q' → Kept h1 h2 (b :: r.toList) →
      Ans (some (Value.int .i64 c, h2.setIfInBounds b (.cells (qcells 0 r f' q') 0 true []))) (CollPost ok h b r (collM q stamp l).1 (collM q stamp l).2) := by
    intro c q' f' h2 e s2 k2
    obtain ⟨s3, k3⟩ := s2.lock 0
    rw [e]
    refine Ans.of ⟨f', rfl, s3, ?_⟩
    exact (k1.weak (by simp)).trans (k2.trans (k3.weak (by simp)))
  simp (disch := first | omega | (simp only [newRow_size, Array.size_setIfInBounds, Array.size_push]; done) | (simp only [newRow_size, Array.size_setIfInBounds, Array.size_push]; omega)) [r29_3, fits_eq (F := F) (by omega) s1, eqT, eqF, neT, neF, ltT, ltF, leT, leF, nltT, nltF, nleT, nleF, nneT, nneF, List.getElem?_cons_zero, List.getElem?_cons_succ]
  by_cases hf : fitsM q.last stamp = 0
  · by_cases hz : l.length = 0
    · have hl0 : l = [] := List.length_eq_zero_iff.1 hz
      have hm : collM q stamp l = (100, q) := by unfold collM; rw [if_neg (by simp [hf]), if_pos hl0]
      simp (disch := first | omega | (simp only [newRow_size, Array.size_setIfInBounds, Array.size_push]; done) | (simp only [newRow_size, Array.size_setIfInBounds, Array.size_push]; omega)) [r29_4, hf, hl, r29_5, r29_6, r29_7, eqT, eqF, neT, neF, ltT, ltF, leT, leF, nltT, nltF, nleT, nleF, nneT, nneF, List.getElem?_cons_zero, List.getElem?_cons_succ, unl s1]
      exact fin _ _ _ _ hm s1 (Kept.refl _ _)
    · have hl0 : ¬ l = [] := fun e => hz (by rw [e]; rfl)
      have hbE := s1.at'
      simp only [qcells] at hbE
      have hlr : lenV (rsl r q.room) = some (.int .i64 q.room) := by
        cases r with
        | none => simp [(s1.no rfl).1]
        | some r => simp
      simp (disch := first | omega | (simp only [newRow_size, Array.size_setIfInBounds, Array.size_push]; done) | (simp only [newRow_size, Array.size_setIfInBounds, Array.size_push]; omega)) [r29_4, r29_6, hf, hl, hbE, hlr, r29_8, eqT, eqF, neT, neF, ltT, ltF, leT, leF, nltT, nltF, nleT, nleF, nneT, nneF, List.getElem?_cons_zero, List.getElem?_cons_succ]
      by_cases hroom : q.room = 0
      · have hm : collM q stamp l = (46, q) := by unfold collM; rw [if_neg (by simp [hf]), if_neg hl0, if_pos hroom]
        simp (disch := first | omega | (simp only [newRow_size, Array.size_setIfInBounds, Array.size_push]; done) | (simp only [newRow_size, Array.size_setIfInBounds, Array.size_push]; omega)) [hroom, r29_9, eqT, eqF, neT, neF, ltT, ltF, leT, leF, nltT, nltF, nleT, nleF, nneT, nneF, List.getElem?_cons_zero, List.getElem?_cons_succ, unl s1]
        exact fin _ _ _ _ hm s1 (Kept.refl _ _)
      · have hm : collM q stamp l = (0, ⟨q.room, [⟨stamp, afterM q, true, [], l⟩], stamp⟩) := by unfold collM; rw [if_neg (by simp [hf]), if_neg hl0, if_neg hroom]
        obtain ⟨r, rfl⟩ : ∃ c, r = some c := by
          cases r with
          | none => exact absurd (s1.no rfl).1 hroom
          | some r => exact ⟨r, rfl⟩
        have hbs := lt_of_get hbE
        obtain ⟨z1, z2, z3, z4, cs, z5, z6⟩ := s1.yes r rfl
        have hrs := lt_of_get z5
        have hbr : ¬ b = r := fun e => z3 e.symm
        have hcl := z6.1
        have tail : Ans
            (evR (cf F) r29_14 [(0, .pointer (some ⟨b, 0, none⟩)), (1, .int .i64 stamp), (2, v), (8, .int .i64 (afterM q))]
              (h1.setIfInBounds r (.cells ((List.replicate q.room [Value.int .i64 0, .int .i64 0, .bool false, .slice none 0 0, .slice none 0 0]).flatten ++ List.drop (q.room * 5) cs) 5 true []))
              (evC F (cf F) ((ACode.region r29_15 []).seq ((ACode.region r29_16 [6]).seq ACode.ret)) (endK (cfX XD) [ARes.tmp 6]) noK (endK (cfX XD) [ARes.tmp 6]))
              [0, 1, 2, 8] [⟨60, [.pointer (some ⟨b, 0, none⟩)]⟩])
            (CollPost ok h b (some r) (collM q stamp l).1 (collM q stamp l).2) := by
          have hzl : ((List.replicate q.room [Value.int .i64 0, .int .i64 0, .bool false, .slice none 0 0, .slice none 0 0]).flatten ++ List.drop (q.room * 5) cs).length = q.room * 5 := by simp [hcl]
          generalize (List.replicate q.room [Value.int .i64 0, .int .i64 0, .bool false, .slice none 0 0, .slice none 0 0]).flatten ++ List.drop (q.room * 5) cs = zs at hzl
          have k2 : Kept h1 (h1.setIfInBounds r (.cells zs 5 true [])) [r] := ⟨by simp, fun c hc hn => by
            rw [List.mem_singleton] at hn
            have n1 : ¬ r = c := fun e => hn e.symm
            simp [n1]⟩
          have hbE2 := (k2.get hbs (by simpa using hbr)).trans hbE
          have hrE2 : hget (h1.setIfInBounds r (.cells zs 5 true [])) r = some (.cells zs 5 true []) := by simp [hrs]
          have y2 : (h1.setIfInBounds r (.cells zs 5 true [])).size = h1.size := by simp
          generalize h1.setIfInBounds r (.cells zs 5 true []) = h2 at k2 hbE2 hrE2 y2 ⊢
          have hbs2 := lt_of_get hbE2
          have hrs2 := lt_of_get hrE2
          simp (disch := first | omega | (simp only [newRow_size, Array.size_setIfInBounds, Array.size_push]; done) | (simp only [newRow_size, Array.size_setIfInBounds, Array.size_push]; omega)) [r29_14, hbE2, eqT, eqF, neT, neF, ltT, ltF, leT, leF, nltT, nltF, nleT, nleF, nneT, nneF, List.getElem?_cons_zero, List.getElem?_cons_succ]
          have k3 : Kept h2 (h2.setIfInBounds b (.cells (qcells 1 (some r) 0 ⟨q.room, [], q.last⟩) 0 true [])) [b] := ⟨by simp, fun c hc hn => by
            rw [List.mem_singleton] at hn
            have n1 : ¬ b = c := fun e => hn e.symm
            simp [n1]⟩
          have s3 : QAt ok (h2.setIfInBounds b (.cells (qcells 1 (some r) 0 ⟨q.room, [], q.last⟩) 0 true [])) b 1 (some r) 0 ⟨q.room, [], q.last⟩ := by
            refine ⟨by simp [hbs2], by simp, ?_, s1.okb⟩
            intro c e
            cases e
            exact ⟨z1, z1, z3, z4, zs, (k3.get hrs2 (by simpa using z3)).trans hrE2, hzl, by simp⟩
          simp only [qcells, List.length_nil, Int.natCast_zero, rsl_some] at k3 s3
          have y3 := k3.1
          have sl3 := SlPrt.imp sl1 (ok' := ok2) (fun _ _ q => q) (keep_of (k2.c.weak (M := [b, r]) (by simp) |>.trans (k3.c.weak (by simp))) (by
            intro c hc
            simp only [List.mem_cons, List.not_mem_nil, or_false] at hc
            rcases hc with rfl | rfl
            · exact hb2
            · exact hr2 _ rfl))
          generalize h2.setIfInBounds b (.cells [.int .i32 1, .int .u32 0, .slice (some ⟨r, 0, none⟩) q.room q.room, .int .i64 0, .int .i64 0, .int .i64 q.last] 0 true []) = h3 at k3 s3 y3 sl3 ⊢
          simp (disch := first | omega | (simp only [newRow_size, Array.size_setIfInBounds, Array.size_push]; done) | (simp only [newRow_size, Array.size_setIfInBounds, Array.size_push]; omega)) [r29_15, eqT, eqF, neT, neF, ltT, ltF, leT, leF, nltT, nltF, nleT, nleF, nneT, nneF, List.getElem?_cons_zero, List.getElem?_cons_succ]
          refine Ans.next (copiedParts_spec (F := F) (by omega) sl3 hs) ?_
          rintro v4 h4 ⟨b4, k4⟩
          have y4 := k4.1
          have s4 := s3.frame k4
          have hb4 := s4.at'
          simp only [qcells] at hb4
          have hvc := b4.sl.vc
          have hvo := b4.sl.one
          simp only [vcells] at hvc
          simp (disch := first | omega | (simp only [newRow_size, Array.size_setIfInBounds, Array.size_push]; done) | (simp only [newRow_size, Array.size_setIfInBounds, Array.size_push]; omega)) [hvc, eqT, eqF, neT, neF, ltT, ltF, leT, leF, nltT, nltF, nleT, nleF, nneT, nneF, List.getElem?_cons_zero, List.getElem?_cons_succ]
          have hx : ItmC ok h4 [.int .i64 stamp, .int .i64 (afterM q), .bool true, .slice none 0 0, v4] ⟨stamp, afterM q, true, [], l⟩ := by
            refine ⟨.slice none 0 0, v4, rfl, .inl ⟨.inl rfl, rfl⟩, ?_⟩
            refine SlPrt.imp b4.sl (fun c _ hc => ?_) (fun c cs _ e => e)
            have : h3.size ≤ c := hc
            exact hok c (by omega)
          have g4 : (⟨q.room, [], q.last⟩ : Qm).Good := ⟨g.room, by simp, g.lo, g.hi, by simp, by simp⟩
          refine Ans.next (put_spec (F := F) (x := ⟨stamp, afterM q, true, [], l⟩) (v := .slice none 0 0) (w := v4) (by omega) s4 g4 (by simpa using z1) hx rfl hvo) ?_
          rintro u h5 ⟨rfl, s5, k5⟩
          simp (disch := first | omega | (simp only [newRow_size, Array.size_setIfInBounds, Array.size_push]; done) | (simp only [newRow_size, Array.size_setIfInBounds, Array.size_push]; omega)) [r29_16, unl s5, eqT, eqF, neT, neF, ltT, ltF, leT, leF, nltT, nltF, nleT, nleF, nneT, nneF, List.getElem?_cons_zero, List.getElem?_cons_succ]
          refine fin _ _ _ _ hm s5 ?_
          exact (k2.weak (by simp)).trans ((k3.weak (by simp)).trans (k4.of_nil.trans (k5.weak (by simp))))
        have hit : q.items.length = 0 ∧ afterM q = q.last ∨ 0 < q.items.length ∧ cf F 43 [.pointer (some ⟨b, 0, none⟩), .int .i64 0] h1 = some (.pointer (some ⟨r, (first + 0) % q.room * 5, none⟩), h1) ∧ (cs.drop ((first + 0) % q.room * 5 + 1)).take 1 = [.int .i64 (afterM q)] ∧ (first + 0) % q.room * 5 + 5 ≤ cs.length := by
          cases hq : q.items with
          | nil => exact .inl ⟨rfl, by simp [afterM, hq]⟩
          | cons x rest =>
            have hp : (first + 0) % q.room < q.room := Nat.mod_lt _ z1
            obtain ⟨_, _, _, _, e3, _⟩ := id_at (z6.2 0 x (by rw [hq]; rfl)) (by omega)
            exact .inr ⟨by simp, by simpa using at_eq (F := F) (by omega) s1 g 0 (by omega), by rw [e3]; simp [afterM, hq], by omega⟩
        rcases hit with ⟨hn, ha⟩ | ⟨hn, hat, ha, hp⟩
        · simp (disch := first | omega | (simp only [newRow_size, Array.size_setIfInBounds, Array.size_push]; done) | (simp only [newRow_size, Array.size_setIfInBounds, Array.size_push]; omega)) [hroom, r29_10, hbE, r29_11, hn, eqT, eqF, neT, neF, ltT, ltF, leT, leF, nltT, nltF, nleT, nleF, nneT, nneF, List.getElem?_cons_zero, List.getElem?_cons_succ, r29_13, z5, hcl]
          rw [← ha]
          exact tail
        · generalize (first + 0) % q.room = p at hat ha hp
          simp (disch := first | omega | (simp only [newRow_size, Array.size_setIfInBounds, Array.size_push]; done) | (simp only [newRow_size, Array.size_setIfInBounds, Array.size_push]; omega)) [hroom, r29_10, hbE, r29_11, hn, hat, z5, ha, hp, r29_12, eqT, eqF, neT, neF, ltT, ltF, leT, leF, nltT, nltF, nleT, nleF, nneT, nneF, List.getElem?_cons_zero, List.getElem?_cons_succ, r29_13, hcl]
          exact tail
  · have hm : collM q stamp l = (fitsM q.last stamp, q) := by unfold collM; rw [if_pos hf]
    simp (disch := first | omega | (simp only [newRow_size, Array.size_setIfInBounds, Array.size_push]; done) | (simp only [newRow_size, Array.size_setIfInBounds, Array.size_push]; omega)) [r29_4, hf, r29_6, r29_7, eqT, eqF, neT, neF, ltT, ltF, leT, leF, nltT, nltF, nleT, nleF, nneT, nneF, List.getElem?_cons_zero, List.getElem?_cons_succ, unl s1]
    exact fin _ _ _ _ hm s1 (Kept.refl _ _)

end Go.Proofs.Ytkkagpchcefidaa
