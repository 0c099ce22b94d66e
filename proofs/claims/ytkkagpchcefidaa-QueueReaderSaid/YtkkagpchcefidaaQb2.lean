/- The program's queue: New, Len, Last, put; ContainsFunc over changes without tags. -/
import Derived.Test.YtkkagpchcefidaaQb1
set_option linter.unusedSimpArgs false
set_option linter.unusedVariables false
namespace Go.Proofs.Ytkkagpchcefidaa
open Go.Ev

theorem set_same {h : H} {b : Nat} {x : Blk} (hb : hget h b = some x) : Array.setIfInBounds h b x = h := by
  have hb' : h[b]? = some x := hb
  obtain ⟨h1, h2⟩ := Array.getElem?_eq_some_iff.1 hb'
  apply Array.ext
  · simp
  · intro i h3 h4
    rw [Array.getElem_setIfInBounds]
    by_cases e : b = i
    · subst e; simp [h2]
    · rw [if_neg e]

theorem Last_eq {F : Nat} (hF : 3 ≤ F) {ok : Nat → Prop} {h : H} {b : Nat} {r : Option Nat} {first : Nat} {q : Qm} (s : QAt ok h b 0 r first q) :
    cf F 24 [.pointer (some ⟨b, 0, none⟩)] h = some (.int .i64 q.last, h) := by
  obtain ⟨F, rfl⟩ : ∃ G, F = G + 1 := ⟨F - 1, by omega⟩
  have hb := s.at'
  have hbs := lt_of_get hb
  rw [cf_step (a := a24) rfl rfl (by simp [a24])]
  simp (disch := first | omega | (simp only [newRow_size, Array.size_setIfInBounds, Array.size_push]; done) | (simp only [newRow_size, Array.size_setIfInBounds, Array.size_push]; omega)) [a24, r24_0, r24_1, r24_3, r24_4, evP_call, held_eq (F := F) (by omega) s, deferK_v, deferV_fn, qcells, eqT, eqF, neT, neF, ltT, ltF, leT, leF, nltT, nltF, nleT, nleF, nneT, nneF, flipX, List.getElem?_cons_zero, List.getElem?_cons_succ]
  exact set_same hb

theorem Len_eq {F : Nat} (hF : 3 ≤ F) {ok : Nat → Prop} {h : H} {b : Nat} {r : Option Nat} {first : Nat} {q : Qm} (s : QAt ok h b 0 r first q) :
    cf F 25 [.pointer (some ⟨b, 0, none⟩)] h = some (.int .i64 q.items.length, h) := by
  obtain ⟨F, rfl⟩ : ∃ G, F = G + 1 := ⟨F - 1, by omega⟩
  have hb := s.at'
  have hbs := lt_of_get hb
  rw [cf_step (a := a25) rfl rfl (by simp [a25])]
  simp (disch := first | omega | (simp only [newRow_size, Array.size_setIfInBounds, Array.size_push]; done) | (simp only [newRow_size, Array.size_setIfInBounds, Array.size_push]; omega)) [a25, r25_0, r25_1, r25_3, r25_4, evP_call, held_eq (F := F) (by omega) s, deferK_v, deferV_fn, qcells, eqT, eqF, neT, neF, ltT, ltF, leT, leF, nltT, nltF, nleT, nleF, nneT, nneF, flipX, List.getElem?_cons_zero, List.getElem?_cons_succ]
  exact set_same hb

theorem New_bad1 {F : Nat} (hF : 1 ≤ F) (h : H) (n m : Int) (hn : n < 1 ∨ 32 < n) : cf F 16 [.int .i64 n, .int .i64 m] h = some (.tuple ⟨[.pointer none, .int .i64 1]⟩, h) := by
  obtain ⟨F, rfl⟩ : ∃ G, F = G + 1 := ⟨F - 1, by omega⟩
  rw [cf_step (a := a16) rfl rfl (by simp [a16])]
  by_cases h1 : n < 1
  · simp (disch := first | omega | (simp only [newRow_size, Array.size_setIfInBounds, Array.size_push]; done) | (simp only [newRow_size, Array.size_setIfInBounds, Array.size_push]; omega)) [a16, r16_0, r16_1, r16_2, eqT, eqF, neT, neF, ltT, ltF, leT, leF, nltT, nltF, nleT, nleF, nneT, nneF, flipX, List.getElem?_cons_zero, List.getElem?_cons_succ]
  · simp (disch := first | omega | (simp only [newRow_size, Array.size_setIfInBounds, Array.size_push]; done) | (simp only [newRow_size, Array.size_setIfInBounds, Array.size_push]; omega)) [a16, r16_0, r16_1, r16_2, eqT, eqF, neT, neF, ltT, ltF, leT, leF, nltT, nltF, nleT, nleF, nneT, nneF, flipX, List.getElem?_cons_zero, List.getElem?_cons_succ]
theorem New_bad2 {F : Nat} (hF : 1 ≤ F) (h : H) (n m : Int) (h1 : 1 ≤ n) (h2 : n ≤ 32) (hm : m < 0 ∨ 2147483647 < m) : cf F 16 [.int .i64 n, .int .i64 m] h = some (.tuple ⟨[.pointer none, .int .i64 3]⟩, h) := by
  obtain ⟨F, rfl⟩ : ∃ G, F = G + 1 := ⟨F - 1, by omega⟩
  rw [cf_step (a := a16) rfl rfl (by simp [a16])]
  by_cases h1 : m < 0
  · simp (disch := first | omega | (simp only [newRow_size, Array.size_setIfInBounds, Array.size_push]; done) | (simp only [newRow_size, Array.size_setIfInBounds, Array.size_push]; omega)) [a16, r16_0, r16_1, r16_3, r16_4, eqT, eqF, neT, neF, ltT, ltF, leT, leF, nltT, nltF, nleT, nleF, nneT, nneF, flipX, List.getElem?_cons_zero, List.getElem?_cons_succ]
  · simp (disch := first | omega | (simp only [newRow_size, Array.size_setIfInBounds, Array.size_push]; done) | (simp only [newRow_size, Array.size_setIfInBounds, Array.size_push]; omega)) [a16, r16_0, r16_1, r16_3, r16_4, eqT, eqF, neT, neF, ltT, ltF, leT, leF, nltT, nltF, nleT, nleF, nneT, nneF, flipX, List.getElem?_cons_zero, List.getElem?_cons_succ]

def NewPost (h : H) (n m : Int) (v : Value) (h' : H) : Prop := ∃ b r, v = .tuple ⟨[.pointer (some ⟨b, 0, none⟩), .int .i64 0]⟩ ∧ (∀ ok : Nat → Prop, ¬ ok b → ¬ ok r → QAt ok h' b 0 (some r) 0 (Qm.new n m)) ∧ h.size ≤ b ∧ h.size ≤ r ∧ b < h'.size ∧ r < h'.size ∧ r ≠ b ∧ Kept h h' []

theorem New_spec {F : Nat} (hF : 1 ≤ F) (h : H) (n m : Int) (h1 : 1 ≤ n) (h2 : n ≤ 32) (h3 : 0 ≤ m) (h4 : m ≤ 2147483647) : Ans (cf F 16 [.int .i64 n, .int .i64 m] h) (NewPost h n m) := by
  obtain ⟨F, rfl⟩ : ∃ G, F = G + 1 := ⟨F - 1, by omega⟩
  rw [cf_step (a := a16) rfl rfl (by simp [a16])]
  have hb : 72 * n.toNat ≤ 140737488355328 := by omega
  have hc : n ≤ 9223372036854775807 := by omega
  simp (disch := first | omega | (simp only [newRow_size, Array.size_setIfInBounds, Array.size_push]; done) | (simp only [newRow_size, Array.size_setIfInBounds, Array.size_push]; omega)) [a16, r16_0, r16_1, r16_3, r16_5, hb, hc, eqT, eqF, neT, neF, ltT, ltF, leT, leF, nltT, nltF, nleT, nleF, nneT, nneF, flipX, List.getElem?_cons_zero, List.getElem?_cons_succ]
  refine Ans.of ⟨h.size + 1, h.size, rfl, ?_, (by first | omega | (simp only [newRow_size, Array.size_setIfInBounds, Array.size_push]; done) | (simp only [newRow_size, Array.size_setIfInBounds, Array.size_push]; omega)), (by first | omega | (simp only [newRow_size, Array.size_setIfInBounds, Array.size_push]; done) | (simp only [newRow_size, Array.size_setIfInBounds, Array.size_push]; omega)), (by first | omega | (simp only [newRow_size, Array.size_setIfInBounds, Array.size_push]; done) | (simp only [newRow_size, Array.size_setIfInBounds, Array.size_push]; omega)), (by first | omega | (simp only [newRow_size, Array.size_setIfInBounds, Array.size_push]; done) | (simp only [newRow_size, Array.size_setIfInBounds, Array.size_push]; omega)), by omega, (by first | omega | (simp only [newRow_size, Array.size_setIfInBounds, Array.size_push]; done) | (simp only [newRow_size, Array.size_setIfInBounds, Array.size_push]; omega)), fun c hc _ => by simp (disch := first | omega | (simp only [newRow_size, Array.size_setIfInBounds, Array.size_push]; done) | (simp only [newRow_size, Array.size_setIfInBounds, Array.size_push]; omega)) []⟩
  intro ok ob or
  refine ⟨?_, by simp, ?_, ob⟩
  · simp (disch := first | omega | (simp only [newRow_size, Array.size_setIfInBounds, Array.size_push]; done) | (simp only [newRow_size, Array.size_setIfInBounds, Array.size_push]; omega)) [qcells, Qm.new]
  · intro c e
    cases e
    refine ⟨by simp [Qm.new]; omega, by simp [Qm.new]; omega, by omega, or, (List.replicate n.toNat [Value.int .i64 0, .int .i64 0, .bool false, .slice none 0 0, .slice none 0 0]).flatten, by simp (disch := first | omega | (simp only [newRow_size, Array.size_setIfInBounds, Array.size_push]; done) | (simp only [newRow_size, Array.size_setIfInBounds, Array.size_push]; omega)) [], by simp [Qm.new], by simp [Qm.new]⟩

theorem put_spec {F : Nat} (hF : 2 ≤ F) {ok : Nat → Prop} {h : H} {b : Nat} {r first : Nat} {q : Qm} (s : QAt ok h b 1 (some r) first q) (g : q.Good) (hlt : q.items.length < q.room) {x : Itm} {v w : Value}
    (hx : ItmC ok h [.int .i64 x.stamp, .int .i64 x.after, .bool x.marker, v, w] x) (ov : oneCell v = true) (ow : oneCell w = true) :
    Ans (cf F 53 [.pointer (some ⟨b, 0, none⟩), .agg ⟨[.int .i64 x.stamp, .int .i64 x.after, .bool x.marker, v, w]⟩] h) fun u h' => u = .tuple ⟨[]⟩ ∧ QAt ok h' b 1 (some r) first ⟨q.room, q.items ++ [x], x.stamp⟩ ∧ Kept h h' [b, r] := by
  obtain ⟨F, rfl⟩ : ∃ G, F = G + 1 := ⟨F - 1, by omega⟩
  have hb := s.at'
  have hbs := lt_of_get hb
  obtain ⟨h1, h2, h3, h4, cs, h5, h6⟩ := s.yes r rfl
  have hrs := lt_of_get h5
  have hroom := g.room
  have hw1 : IntKind.i64.wrap ((q.items.length : Int) + 1) = (q.items.length : Int) + 1 := wrap_id (by omega) (by omega)
  have hw2 : IntKind.i64.wrap (q.items.length : Int) = (q.items.length : Int) := wrap_id (by omega) (by omega)
  rw [cf_step (a := a53) rfl rfl (by simp [a53])]
  have ov' := ov
  have ow' := ow
  simp only [oneCell] at ov' ow'
  simp (disch := first | omega | (simp only [newRow_size, Array.size_setIfInBounds, Array.size_push]; done) | (simp only [newRow_size, Array.size_setIfInBounds, Array.size_push]; omega)) [a53, r53_0, r53_1, hb, qcells, hw1, hw2, eqT, eqF, neT, neF, ltT, ltF, leT, leF, nltT, nltF, nleT, nleF, nneT, nneF, flipX, List.getElem?_cons_zero, List.getElem?_cons_succ, d53_2]
  have hbr : ¬ b = r := fun e => h3 e.symm
  obtain ⟨E, hE⟩ : ∃ E, E = Array.setIfInBounds (Ev.newRow h [.int .i64 x.stamp, .int .i64 x.after, .bool x.marker, v, w] 0 []) b (.cells [.int .i32 1, .int .u32 0, rsl (some r) q.room, .int .i64 first, .int .i64 ((q.items.length : Int) + 1), .int .i64 q.last] 0 true []) := ⟨_, rfl⟩
  have hat : cf F 43 [.pointer (some ⟨b, 0, none⟩), .int .i64 q.items.length] E = some (.pointer (some ⟨r, (first + q.items.length) % q.room * 5, none⟩), E) := by
    obtain ⟨F, rfl⟩ : ∃ G, F = G + 1 := ⟨F - 1, by omega⟩
    rw [cf_step (a := a43) rfl rfl (by simp [a43])]
    have hlen := g.len
    have hw : IntKind.i64.wrap ((first : Int) + (q.items.length : Int)) = (first : Int) + (q.items.length : Int) := wrap_id (by omega) (by omega)
    have hm : ((first : Int) + (q.items.length : Int)).tmod (q.room : Int) = (((first + q.items.length) % q.room : Nat) : Int) := by
      rw [Int.tmod_eq_emod_of_nonneg (by omega)]; rfl
    have hlt : (first + q.items.length) % q.room < q.room := Nat.mod_lt _ h1
    have hz : ¬ q.room = 0 := by omega
    generalize (first + q.items.length) % q.room = p at hm hlt ⊢
    have hbE : hget E b = some (.cells [.int .i32 1, .int .u32 0, .slice (some ⟨r, 0, none⟩) q.room q.room, .int .i64 first, .int .i64 ((q.items.length : Int) + 1), .int .i64 q.last] 0 true []) := by rw [hE]; simp (disch := first | omega | (simp only [newRow_size, Array.size_setIfInBounds, Array.size_push]; done) | (simp only [newRow_size, Array.size_setIfInBounds, Array.size_push]; omega)) []
    simp (disch := first | omega | (simp only [newRow_size, Array.size_setIfInBounds, Array.size_push]; done) | (simp only [newRow_size, Array.size_setIfInBounds, Array.size_push]; omega)) [a43, r43_0, d43_1, hbE, hw, hm, hz, eqT, eqF, neT, neF, ltT, ltF, leT, leF, nltT, nltF, nleT, nleF, nneT, nneF, flipX, List.getElem?_cons_zero, List.getElem?_cons_succ]
  have hp : (first + q.items.length) % q.room < q.room := Nat.mod_lt _ h1
  have hput := h6.put (x := x) hlt h2 hx rfl
  generalize (first + q.items.length) % q.room = p at hat hp hput
  have hcl := h6.1
  have hrE : hget E r = some (.cells cs 5 true []) := by rw [hE]; simp (disch := first | omega | (simp only [newRow_size, Array.size_setIfInBounds, Array.size_push]; done) | (simp only [newRow_size, Array.size_setIfInBounds, Array.size_push]; omega)) [h5]
  simp only [rsl_some] at hE
  rw [← hE, hat]
  have hbE : hget E b = some (.cells [.int .i32 1, .int .u32 0, .slice (some ⟨r, 0, none⟩) q.room q.room, .int .i64 first, .int .i64 ((q.items.length : Int) + 1), .int .i64 q.last] 0 true []) := by rw [hE]; simp (disch := first | omega | (simp only [newRow_size, Array.size_setIfInBounds, Array.size_push]; done) | (simp only [newRow_size, Array.size_setIfInBounds, Array.size_push]; omega)) []
  have hxE : hget E h.size = some (.cells [.int .i64 x.stamp, .int .i64 x.after, .bool x.marker, v, w] 0 true []) := by rw [hE]; simp (disch := first | omega | (simp only [newRow_size, Array.size_setIfInBounds, Array.size_push]; done) | (simp only [newRow_size, Array.size_setIfInBounds, Array.size_push]; omega)) []
  have zE : E.size = h.size + 1 := by rw [hE]; simp
  have hvs : sameCell v v = true := by
    obtain ⟨v', w', e, s1, s2⟩ := hx
    injection e with _ e; injection e with _ e; injection e with _ e; injection e with e1 e; injection e with e2 _
    subst e1; exact s1.same
  have hws : sameCell w w = true := by
    obtain ⟨v', w', e, s1, s2⟩ := hx
    injection e with _ e; injection e with _ e; injection e with _ e; injection e with e1 e; injection e with e2 _
    subst e2; exact s2.same
  simp only [sameCell] at hvs hws
  simp (disch := first | omega | (simp only [newRow_size, Array.size_setIfInBounds, Array.size_push]; done) | (simp only [newRow_size, Array.size_setIfInBounds, Array.size_push]; omega)) [hrE, hbE, hxE, eqT, eqF, neT, neF, ltT, ltF, leT, leF, nltT, nltF, nleT, nleF, nneT, nneF, flipX, List.getElem?_cons_zero, List.getElem?_cons_succ, ov', ow', dk_go, chks_nil, chks_cons, chkA_nil, chkA_cons, chk1_no, chk1_yes, chkV_some, hAt_eq, hOf_some, hOf_none, sameV, sameL, sameCell, hvs, hws, hcl, r53_3]
  simp only [List.append_assoc, List.cons_append, List.nil_append] at hput
  generalize cs.take (p * 5) ++ Value.int .i64 x.stamp :: .int .i64 x.after :: .bool x.marker :: v :: w :: cs.drop (p * 5 + 5) = cs2 at hput ⊢
  have kF : Kept h (Array.setIfInBounds (Array.setIfInBounds E r (.cells cs2 5 true [])) b (.cells [.int .i32 1, .int .u32 0, .slice (some ⟨r, 0, none⟩) q.room q.room, .int .i64 first, .int .i64 ((q.items.length : Int) + 1), .int .i64 x.stamp] 0 true [])) [b, r] := by
    refine ⟨by simp; omega, fun c hc hn => ?_⟩
    simp only [List.mem_cons, List.not_mem_nil, or_false, not_or] at hn
    have n1 : ¬ b = c := fun e => hn.1 e.symm
    have n2 : ¬ r = c := fun e => hn.2 e.symm
    rw [set_other n1, set_other n2, hE]
    simp (disch := first | omega | (simp only [newRow_size, Array.size_setIfInBounds, Array.size_push]; done) | (simp only [newRow_size, Array.size_setIfInBounds, Array.size_push]; omega)) []
  refine Ans.of ⟨rfl, ⟨?_, by simp, ?_, s.okb⟩, kF⟩
  · simp (disch := first | omega | (simp only [newRow_size, Array.size_setIfInBounds, Array.size_push]; done) | (simp only [newRow_size, Array.size_setIfInBounds, Array.size_push]; omega)) [qcells]
  · intro c e
    cases e
    refine ⟨h1, h2, h3, h4, cs2, ?_, ?_⟩
    · rw [set_other hbr]; simp (disch := first | omega | (simp only [newRow_size, Array.size_setIfInBounds, Array.size_push]; done) | (simp only [newRow_size, Array.size_setIfInBounds, Array.size_push]; omega)) []
    · refine hput.kc kF.c ?_
      intro c hc
      simp only [List.mem_cons, List.not_mem_nil, or_false] at hc
      rcases hc with rfl | rfl
      · exact s.okb
      · exact h4

/-- Has a change no tag? -/
def bare (l : List Tgd) : Bool := l.any fun t => t.tags.isEmpty

theorem bare_iff (l : List Tgd) : bare l = true ↔ ∃ t ∈ l, t.tags = [] := by
  simp [bare, List.isEmpty_iff]

theorem noTag_spec {F : Nat} (hF : 1 ≤ F) {ok : Nat → Prop} {h : H} {cs : List Value} {t : Tgd} (s : TgdC ok h cs t) : Ans (cf F 52 [.agg ⟨cs⟩] h) fun u h' => u = .bool t.tags.isEmpty ∧ Kept h h' [] := by
  obtain ⟨F, rfl⟩ : ∃ G, F = G + 1 := ⟨F - 1, by omega⟩
  obtain ⟨v, rfl, s⟩ := s
  have hl := s.len
  rw [cf_step (a := a52) rfl rfl (by simp [a52])]
  cases ht : t.tags with
  | nil =>
    rw [ht] at hl
    simp (disch := first | omega | (simp only [newRow_size, Array.size_setIfInBounds, Array.size_push]; done) | (simp only [newRow_size, Array.size_setIfInBounds, Array.size_push]; omega)) [a52, r52_0, r52_1, hl, eqT, eqF, neT, neF, ltT, ltF, leT, leF, nltT, nltF, nleT, nleF, nneT, nneF, flipX, List.getElem?_cons_zero, List.getElem?_cons_succ]
    exact Ans.of ⟨rfl, rowKept _ _ _ _⟩
  | cons x l =>
    rw [ht] at hl
    simp at hl
    simp (disch := first | omega | (simp only [newRow_size, Array.size_setIfInBounds, Array.size_push]; done) | (simp only [newRow_size, Array.size_setIfInBounds, Array.size_push]; omega)) [a52, r52_0, r52_1, hl, eqT, eqF, neT, neF, ltT, ltF, leT, leF, nltT, nltF, nleT, nleF, nneT, nneF, flipX, List.getElem?_cons_zero, List.getElem?_cons_succ]
    exact Ans.of ⟨rfl, rowKept _ _ _ _⟩

theorem index_spec {F : Nat} (hF : 17592186044420 ≤ F) {ok : Nat → Prop} {h : H} {v : Value} {xs : List Tgd} (s : SlR ok 5 (TgdC ok) h v xs) (hs : xs.length ≤ 1954687338268) :
    Ans (cf F 64 [v, .func (.func 52) #[] #[]] h) fun u h' => (∃ n : Int, u = .int .i64 n ∧ (0 ≤ n ↔ bare xs = true)) ∧ Kept h h' [] := by
  generalize hQ : (fun (u : Value) (h' : H) => (∃ n : Int, u = .int .i64 n ∧ (0 ≤ n ↔ bare xs = true)) ∧ Kept h h' []) = Q
  obtain ⟨F, rfl⟩ : ∃ G, F = G + 1 := ⟨F - 1, by omega⟩
  rw [cf_step (a := a64) rfl rfl (by simp [a64])]
  have hl := s.len
  simp (disch := first | omega | (simp only [newRow_size, Array.size_setIfInBounds, Array.size_push]; done) | (simp only [newRow_size, Array.size_setIfInBounds, Array.size_push]; omega)) [a64, r64_0, r64_1, hl, eqT, eqF, neT, neF, ltT, ltF, leT, leF, nltT, nltF, nleT, nleF, nneT, nneF, flipX, List.getElem?_cons_zero, List.getElem?_cons_succ]
  refine loop_rule (fun m e g => ∃ (i : Nat), m = xs.length - i ∧ i ≤ xs.length ∧ e = [(0, v), (1, .func (.func 52) #[] #[]), (7, .int .i64 xs.length), (8, .int .i64 i)] ∧ Kept h g [] ∧ bare (xs.take i) = false) ?_ _ xs.length _ _ (by omega) ⟨0, by omega, by omega, rfl, Kept.refl _ _, rfl⟩
  rintro m e g again ⟨i, rfl, hi, rfl, kg, hb⟩ ih
  by_cases hlt : i < xs.length
  · obtain ⟨x, hx⟩ : ∃ x, xs[i]? = some x := ⟨_, List.getElem?_eq_getElem hlt⟩
    obtain ⟨b, o, c, cs, es, lv, an, rfl, hk, hg, hle, hR⟩ := (SlTgd.frame s kg.c).at' hx
    have hw : IntKind.i64.wrap ((i : Int) + 1) = ((i + 1 : Nat) : Int) := by rw [IntKind.wrap_i64]; omega
    simp (disch := first | omega | (simp only [newRow_size, Array.size_setIfInBounds, Array.size_push]; done) | (simp only [newRow_size, Array.size_setIfInBounds, Array.size_push]; omega)) [l64_7, r64_2, r64_3, r64_4, hg, eqT, eqF, neT, neF, ltT, ltF, leT, leF, nltT, nltF, nleT, nleF, nneT, nneF, flipX, List.getElem?_cons_zero, List.getElem?_cons_succ]
    refine Ans.next (noTag_spec (F := F) (by omega) hR) ?_
    rintro u h2 ⟨rfl, k2⟩
    cases ht : x.tags.isEmpty with
    | true =>
      simp (disch := first | omega | (simp only [newRow_size, Array.size_setIfInBounds, Array.size_push]; done) | (simp only [newRow_size, Array.size_setIfInBounds, Array.size_push]; omega)) [r64_5, eqT, eqF, neT, neF, ltT, ltF, leT, leF, nltT, nltF, nleT, nleF, nneT, nneF, flipX, List.getElem?_cons_zero, List.getElem?_cons_succ]
      refine Ans.of ?_
      subst hQ
      refine ⟨⟨i, rfl, ?_⟩, kg.trans k2⟩
      constructor
      · intro _
        rw [bare_iff]
        exact ⟨x, List.mem_of_getElem? hx, List.isEmpty_iff.1 ht⟩
      · intro _; omega
    | false =>
      simp (disch := first | omega | (simp only [newRow_size, Array.size_setIfInBounds, Array.size_push]; done) | (simp only [newRow_size, Array.size_setIfInBounds, Array.size_push]; omega)) [r64_6, hw, eqT, eqF, neT, neF, ltT, ltF, leT, leF, nltT, nltF, nleT, nleF, nneT, nneF, flipX, List.getElem?_cons_zero, List.getElem?_cons_succ]
      refine ih _ _ _ (by omega) ⟨i + 1, rfl, by omega, rfl, kg.trans k2, ?_⟩
      rw [take_snoc hx]
      simp only [bare] at hb ⊢
      rw [List.any_append, hb]
      simp [ht]
  · have hxi : i = xs.length := by omega
    subst hxi
    rw [List.take_length] at hb
    simp (disch := first | omega | (simp only [newRow_size, Array.size_setIfInBounds, Array.size_push]; done) | (simp only [newRow_size, Array.size_setIfInBounds, Array.size_push]; omega)) [l64_7, r64_2, r64_8, eqT, eqF, neT, neF, ltT, ltF, leT, leF, nltT, nltF, nleT, nleF, nneT, nneF, flipX, List.getElem?_cons_zero, List.getElem?_cons_succ]
    refine Ans.of ?_
    subst hQ
    exact ⟨⟨-1, rfl, by rw [hb]; simp⟩, kg⟩

theorem contains_spec {F : Nat} (hF : 17592186044421 ≤ F) {ok : Nat → Prop} {h : H} {v : Value} {xs : List Tgd} (s : SlR ok 5 (TgdC ok) h v xs) (hs : xs.length ≤ 1954687338268) :
    Ans (cf F 51 [v, .func (.func 52) #[] #[]] h) fun u h' => u = .bool (bare xs) ∧ Kept h h' [] := by
  obtain ⟨F, rfl⟩ : ∃ G, F = G + 1 := ⟨F - 1, by omega⟩
  rw [cf_step (a := a51) rfl rfl (by simp [a51])]
  simp (disch := first | omega | (simp only [newRow_size, Array.size_setIfInBounds, Array.size_push]; done) | (simp only [newRow_size, Array.size_setIfInBounds, Array.size_push]; omega)) [a51, r51_0, r51_1, eqT, eqF, neT, neF, ltT, ltF, leT, leF, nltT, nltF, nleT, nleF, nneT, nneF, flipX, List.getElem?_cons_zero, List.getElem?_cons_succ]
  refine Ans.next (index_spec (F := F) (by omega) s hs) ?_
  rintro u h' ⟨⟨n, rfl, hn⟩, k⟩
  simp (disch := first | omega | (simp only [newRow_size, Array.size_setIfInBounds, Array.size_push]; done) | (simp only [newRow_size, Array.size_setIfInBounds, Array.size_push]; omega)) []
  refine Ans.of ⟨?_, k⟩
  cases hb : bare xs with
  | true => simp [hn.2 hb]
  | false =>
    have : ¬ 0 ≤ n := fun e => by rw [hn.1 e] at hb; cases hb
    simp [this]

end Go.Proofs.Ytkkagpchcefidaa
