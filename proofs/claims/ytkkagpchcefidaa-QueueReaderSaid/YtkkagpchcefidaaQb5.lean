/- The program's queue: Took. -/
import Derived.Test.YtkkagpchcefidaaQb4
set_option linter.unusedSimpArgs false
set_option linter.unusedVariables false
namespace Go.Proofs.Ytkkagpchcefidaa
open Go.Ev

theorem Ring.shift {ok : Nat → Prop} {h : H} {room first : Nat} {items : List Itm} {cs new : List Value} {x : Itm} (s : Ring ok h room first (x :: items) cs) (hle : items.length + 1 ≤ room) (hn : new.length = 5) :
    Ring ok h room ((first + 1) % room) items (cs.take ((first + 0) % room * 5) ++ new ++ cs.drop ((first + 0) % room * 5 + 5)) := by
  have hp : (first + 0) % room < room := Nat.mod_lt _ (by omega)
  refine ⟨?_, ?_⟩
  · have := s.1
    simp [hn]; simp at hp; omega
  · intro k y hy
    have hk := (List.getElem?_eq_some_iff.1 hy).1
    have hq : (first + (k + 1)) % room < room := Nat.mod_lt _ (by omega)
    have e1 : ((first + 1) % room + k) % room = (first + (k + 1)) % room := by
      rw [Nat.mod_add_mod]; congr 1; omega
    rw [e1, splice_drop cs new s.1 hp hq hn, if_neg (fun e => mod_ne (room := room) (first := first) (k := 0) (n := k + 1) (by omega) (by omega) e.symm)]
    exact s.2 (k + 1) y (by simpa using hy)

theorem tw_of {α : Type} (p : α → Bool) : ∀ (l : List α) (i : Nat), i ≤ l.length → (∀ x ∈ l.take i, p x = true) → (∀ x, l[i]? = some x → p x = false) → (l.takeWhile p).length = i ∧ l.dropWhile p = l.drop i
  | [], i, h, _, _ => by simp at h; subst h; simp
  | x :: l, 0, _, _, h => by
    have := h x rfl
    simp [this]
  | x :: l, i + 1, h, h1, h2 => by
    have hx := h1 x (by simp)
    obtain ⟨a, b⟩ := tw_of p l i (by simpa using h) (fun y hy => h1 y (by simp [hy])) (fun y hy => h2 y (by simpa using hy))
    simp [hx, a, b]

def TookPost (ok : Nat → Prop) (h : H) (b : Nat) (r : Option Nat) (c : Nat) (q' : Qm) (u : Value) (h' : H) : Prop :=
  u = .int .i64 c ∧ ∃ first', QAt ok h' b 0 r first' q' ∧ Kept h h' (b :: r.toList)

theorem Took_spec {F : Nat} (hF : 100 ≤ F) {ok : Nat → Prop} {h : H} {b : Nat} {r : Option Nat} {first : Nat} {q : Qm} (s : QAt ok h b 0 r first q) (g : q.Good) (stamp : Int) :
    Ans (cf F 30 [.pointer (some ⟨b, 0, none⟩), .int .i64 stamp] h) (TookPost ok h b r (tookM q stamp).1 (tookM q stamp).2) := by
  generalize hQ : TookPost ok h b r (tookM q stamp).1 (tookM q stamp).2 = Q
  obtain ⟨F, rfl⟩ : ∃ G, F = G + 1 := ⟨F - 1, by omega⟩
  rw [cf_step (a := a30) rfl rfl (by simp [a30])]
  obtain ⟨s1, k1⟩ := s.lock 1
  simp (disch := first | omega | (simp only [newRow_size, Array.size_setIfInBounds, Array.size_push]; done) | (simp only [newRow_size, Array.size_setIfInBounds, Array.size_push]; omega)) [a30, r30_0, r30_1, r30_2, r30_3, r30_4, evP_call, held_eq (F := F) (by omega) s, deferK_v, deferV_fn, eqT, eqF, neT, neF, ltT, ltF, leT, leF, nltT, nltF, nleT, nleF, nneT, nneF, List.getElem?_cons_zero, List.getElem?_cons_succ]
  generalize h.setIfInBounds b (.cells (qcells 1 r first q) 0 true []) = h1 at s1 k1 ⊢
  have hgl := g.len
  have hgr := g.room
  refine loop_rule (fun m e k => ∃ (i f' : Nat), m = q.items.length - i ∧ i ≤ q.items.length ∧ e = [(0, .pointer (some ⟨b, 0, none⟩)), (1, .int .i64 stamp), (5, .int .i64 i)] ∧ QAt ok k b 1 r f' ⟨q.room, q.items.drop i, q.last⟩ ∧ Kept h1 k (b :: r.toList) ∧ (∀ x ∈ q.items.take i, decide (x.stamp ≤ stamp) = true)) ?_ _ q.items.length _ _ (by omega) ⟨0, first, by omega, by omega, rfl, s1, Kept.refl _ _, by simp⟩
  rintro m e k again ⟨i, f', rfl, hi, rfl, sk, kk, hw⟩ ih
  have gk : (⟨q.room, q.items.drop i, q.last⟩ : Qm).Good := ⟨g.room, by simp; omega, g.lo, g.hi, g.rise.sublist (List.drop_sublist _ _), fun x hx => g.bnd x (List.mem_of_mem_drop hx)⟩
  have hbE := sk.at'
  simp only [qcells] at hbE
  have fin : ∀ x, q.items[i]? = x → (∀ y, x = some y → ¬ y.stamp ≤ stamp) → Ans (some (Value.int .i64 i, k.setIfInBounds b (.cells (qcells 0 r f' ⟨q.room, q.items.drop i, q.last⟩) 0 true []))) Q := by
    rintro x rfl hx
    obtain ⟨s3, k3⟩ := sk.lock 0
    obtain ⟨e1, e2⟩ := tw_of (fun x : Itm => decide (x.stamp ≤ stamp)) q.items i hi hw (fun y hy => by simpa using hx y hy)
    subst hQ
    refine Ans.of ⟨by simp [tookM, e1], f', ?_, ?_⟩
    · simp only [tookM, e2]; exact s3
    · exact (k1.weak (by simp)).trans (kk.trans (k3.weak (by simp)))
  by_cases hlt : i < q.items.length
  · obtain ⟨x, hx⟩ : ∃ x, q.items[i]? = some x := ⟨_, List.getElem?_eq_getElem hlt⟩
    have hdr : q.items.drop i = x :: q.items.drop (i + 1) := by
      rw [List.drop_eq_getElem_cons hlt]
      rw [List.getElem?_eq_getElem hlt] at hx
      injection hx with hx
      rw [hx]
    have hlen1 : ((q.items.drop i).length : Int) = (q.items.length : Int) - i := by rw [List.length_drop]; omega
    obtain ⟨r, rfl⟩ : ∃ c, r = some c := by
      cases r with
      | none => have := (sk.no rfl).1; simp at this; omega
      | some r => exact ⟨r, rfl⟩
    obtain ⟨z1, z2, z3, z4, cs, z5, z6⟩ := sk.yes r rfl
    simp only at z1 z2 z6
    have hat : cf F 43 [.pointer (some ⟨b, 0, none⟩), .int .i64 0] k = some (.pointer (some ⟨r, (f' + 0) % q.room * 5, none⟩), k) := by simpa using at_eq (F := F) (by omega) sk gk 0 (by omega)
    rw [hdr] at z6
    have hp : (f' + 0) % q.room < q.room := Nat.mod_lt _ z1
    have hcl := z6.1
    obtain ⟨_, _, _, e3, _⟩ := id_at (z6.2 0 x rfl) (by omega)
    have hsh := fun new hn => z6.shift (new := new) (by rw [List.length_drop]; omega) hn
    have hw1 : IntKind.i64.wrap ((i : Int) + 1) = ((i + 1 : Nat) : Int) := by rw [wrap_id (by omega) (by omega)]; rfl
    have hw2 : IntKind.i64.wrap ((f' : Int) + 1) = (f' : Int) + 1 := wrap_id (by omega) (by omega)
    have hm : ((f' : Int) + 1).tmod (q.room : Int) = (((f' + 1) % q.room : Nat) : Int) := by
      rw [Int.tmod_eq_emod_of_nonneg (by omega)]; rfl
    have hw3 : IntKind.i64.wrap ((q.items.length : Int) - i - 1) = ((q.items.drop (i + 1)).length : Int) := by rw [wrap_id (by omega) (by omega), List.length_drop]; omega
    generalize (f' + 0) % q.room = p at hat hp e3 hsh
    rw [hlen1] at hbE
    by_cases hst : x.stamp ≤ stamp
    · have hbs := lt_of_get hbE
      have hrs := lt_of_get z5
      have hsh0 := hsh [.int .i64 0, .int .i64 0, .bool false, .slice none 0 0, .slice none 0 0] rfl
      simp only [List.append_assoc, List.cons_append, List.nil_append] at hsh0
      simp (disch := first | omega | (simp only [newRow_size, Array.size_setIfInBounds, Array.size_push]; done) | (simp only [newRow_size, Array.size_setIfInBounds, Array.size_push]; omega)) [l30_10, r30_5, hbE, hat, z5, e3, eqT, eqF, neT, neF, ltT, ltF, leT, leF, nltT, nltF, nleT, nleF, nneT, nneF, List.getElem?_cons_zero, List.getElem?_cons_succ, r30_6, hcl]
      generalize cs.take (p * 5) ++ Value.int .i64 0 :: .int .i64 0 :: .bool false :: .slice none 0 0 :: .slice none 0 0 :: cs.drop (p * 5 + 5) = cs2 at hsh0 ⊢
      have k2 : Kept k (k.setIfInBounds r (.cells cs2 5 true [])) [r] := ⟨by simp, fun c hc hn => by
        rw [List.mem_singleton] at hn
        have n1 : ¬ r = c := fun e => hn e.symm
        simp [n1]⟩
      have hbr : ¬ b = r := fun e => z3 e.symm
      have hbE2 := (k2.get hbs (by simpa using hbr)).trans hbE
      have hrE2 : hget (k.setIfInBounds r (.cells cs2 5 true [])) r = some (.cells cs2 5 true []) := by simp [hrs]
      generalize k.setIfInBounds r (.cells cs2 5 true []) = h2 at k2 hbE2 hrE2 ⊢
      have hbs2 := lt_of_get hbE2
      have hrs2 := lt_of_get hrE2
      have hrz : ¬ q.room = 0 := by omega
      have hff : (f' + 1) % q.room < q.room := Nat.mod_lt _ z1
      generalize (f' + 1) % q.room = f2 at hm hsh0 hff
      simp (disch := first | omega | (simp only [newRow_size, Array.size_setIfInBounds, Array.size_push]; done) | (simp only [newRow_size, Array.size_setIfInBounds, Array.size_push]; omega)) [d30_7, hbE2, hw2, hm, hrz, eqT, eqF, neT, neF, ltT, ltF, leT, leF, nltT, nltF, nleT, nleF, nneT, nneF, List.getElem?_cons_zero, List.getElem?_cons_succ, r30_8, r30_9, hw3, hw1]
      have k3 : Kept h2 (h2.setIfInBounds b (.cells (qcells 1 (some r) f2 ⟨q.room, q.items.drop (i + 1), q.last⟩) 0 true [])) [b] := ⟨by simp, fun c hc hn => by
        rw [List.mem_singleton] at hn
        have n1 : ¬ b = c := fun e => hn e.symm
        simp [n1]⟩
      have s3 : QAt ok (h2.setIfInBounds b (.cells (qcells 1 (some r) f2 ⟨q.room, q.items.drop (i + 1), q.last⟩) 0 true [])) b 1 (some r) f2 ⟨q.room, q.items.drop (i + 1), q.last⟩ := by
        refine ⟨by simp [hbs2], by simp, ?_, sk.okb⟩
        intro c e
        cases e
        refine ⟨z1, hff, z3, z4, cs2, (k3.get hrs2 (by simpa using z3)).trans hrE2, ?_⟩
        exact (hsh0.kc k2.c (by simpa using z4)).kc k3.c (by simpa using sk.okb)
      simp only [qcells, List.length_drop, rsl_some] at k3 s3
      refine ih (q.items.length - (i + 1)) _ _ (by omega) ⟨i + 1, f2, rfl, by omega, rfl, s3, ?_, ?_⟩
      · exact kk.trans ((k2.weak (by simp)).trans (k3.weak (by simp)))
      · rw [take_snoc hx]
        intro y hy
        rcases List.mem_append.1 hy with hy | hy
        · exact hw y hy
        · simp at hy; subst hy; simpa using hst
    · simp (disch := first | omega | (simp only [newRow_size, Array.size_setIfInBounds, Array.size_push]; done) | (simp only [newRow_size, Array.size_setIfInBounds, Array.size_push]; omega)) [l30_10, r30_5, hbE, hat, z5, e3, hst, eqT, eqF, neT, neF, ltT, ltF, leT, leF, nltT, nltF, nleT, nleF, nneT, nneF, List.getElem?_cons_zero, List.getElem?_cons_succ, r30_11, unl sk]
      exact fin _ hx (fun y hy => by cases hy; exact hst)
  · have hii : i = q.items.length := by omega
    have hl0 : (q.items.drop i).length = 0 := by rw [List.length_drop]; omega
    rw [hl0] at hbE
    simp (disch := first | omega | (simp only [newRow_size, Array.size_setIfInBounds, Array.size_push]; done) | (simp only [newRow_size, Array.size_setIfInBounds, Array.size_push]; omega)) [l30_10, r30_5, hbE, eqT, eqF, neT, neF, ltT, ltF, leT, leF, nltT, nltF, nleT, nleF, nneT, nneF, List.getElem?_cons_zero, List.getElem?_cons_succ, r30_11, unl sk]
    exact fin _ rfl (fun y hy => by rw [List.getElem?_eq_none (by omega)] at hy; cases hy)

end Go.Proofs.Ytkkagpchcefidaa
