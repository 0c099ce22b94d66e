/- Several texts in one: Qb1, Qb2, Qb3, Qb4, Qb5, Qb6, Qb7, Ev22, Qb8. -/
import Derived.Test.YtkkagpchcefidaaW13

/- The program's queue, as the evaluator's memory holds it; held, at, fits, put, New. -/
set_option linter.unusedSimpArgs false
set_option linter.unusedVariables false
namespace Go.Proofs.Ytkkagpchcefidaa
open Go.Ev

/-! ### deferred calls of what a slot holds -/
def deferV (v : Value) (args : List Value) (kn : K) (s : Env) (h : H) (ds : Ds) : Res := match v with
  | .func (.func g) ⟨first⟩ ⟨cap⟩ => kn s h (⟨g, first ++ args ++ cap⟩ :: ds)
  | _ => none
theorem deferK_v {f : Operand} {args : List Operand} {keep : List Nat} {kn : K} {s : Env} {h : H} {ds : Ds} : deferK f args keep kn s h ds = deferV (aeval s f) (args.map (aeval s)) kn (s.keep keep) h ds := by
  simp only [deferK, evDefer, deferV]
  generalize aeval s f = v
  cases v with
  | func g fs cs =>
    obtain ⟨fs⟩ := fs
    obtain ⟨cs⟩ := cs
    cases g <;> rfl
  | _ => rfl
theorem deferV_fn {g : FuncId} {first cap args : List Value} {kn : K} {s : Env} {h : H} {ds : Ds} : deferV (.func (.func g) ⟨first⟩ ⟨cap⟩) args kn s h ds = kn s h (⟨g, first ++ args ++ cap⟩ :: ds) := nr rfl
theorem callV_fn (cf : CF) (g : FuncId) (first cap args : List Value) (h : H) : callV cf (.func (.func g) ⟨first⟩ ⟨cap⟩) args h = cf g (first ++ args ++ cap) h := nr rfl
theorem evP_call {cf : CF} {f : Operand} {args : List Operand} {s : Env} {h : H} {kn : K} {ds : Ds} {d : Option Nat} {os : List AOper} : evP cf (⟨d, none, .call f args⟩ :: os) s h kn ds = nextP (callV cf (aeval s f) (args.map (aeval s)) h) cf d os s kn ds := by
  simp only [evP, evOps, evOper, nextP, evAct_call]
  generalize callV cf (aeval s f) (args.map (aeval s)) h = x
  cases x with
  | none => rfl
  | some p => obtain ⟨v, h'⟩ := p; rfl

theorem lock_eq {F : Nat} (hF : 1 ≤ F) (args : List Value) (h : H) : cf F 59 args h = flipX 0 1 args h := by
  obtain ⟨F, rfl⟩ : ∃ G, F = G + 1 := ⟨F - 1, by omega⟩
  exact cf_X rfl
@[simp] theorem dunlock_eq (args : List Value) (h : H) : cfX XD 60 args h = flipX 1 0 args h := rfl

/-- The ring as a slice. -/
def rsl (r : Option Nat) (n : Nat) : Value := match r with
  | none => .slice none 0 0
  | some r => .slice (some ⟨r, 0, none⟩) n n
@[simp] theorem rsl_none (n : Nat) : rsl none n = .slice none 0 0 := rfl
@[simp] theorem rsl_some (r n : Nat) : rsl (some r) n = .slice (some ⟨r, 0, none⟩) n n := rfl

def qcells (lk : Int) (r : Option Nat) (first : Nat) (q : Qm) : List Value := [.int .i32 lk, .int .u32 0, rsl r q.room, .int .i64 first, .int .i64 q.items.length, .int .i64 q.last]

/-- What the ring holds. -/
def Ring (ok : Nat → Prop) (h : H) (room first : Nat) (items : List Itm) (cs : List Value) : Prop :=
  cs.length = room * 5 ∧ ∀ (k : Nat) (x : Itm), items[k]? = some x → ItmC ok h ((cs.drop ((first + k) % room * 5)).take 5) x

structure QAt (ok : Nat → Prop) (h : H) (b : Nat) (lk : Int) (r : Option Nat) (first : Nat) (q : Qm) : Prop where
  at' : hget h b = some (.cells (qcells lk r first q) 0 true [])
  no : r = none → q.room = 0 ∧ first = 0
  yes : ∀ c, r = some c → 0 < q.room ∧ first < q.room ∧ c ≠ b ∧ ¬ ok c ∧ ∃ cs, hget h c = some (.cells cs 5 true []) ∧ Ring ok h q.room first q.items cs
  okb : ¬ ok b

theorem Ring.kc {ok : Nat → Prop} {h h' : H} {room first : Nat} {items : List Itm} {cs : List Value} {L : List Nat} (s : Ring ok h room first items cs) (k : KeptC h h' L) (hL : ∀ b ∈ L, ¬ ok b) : Ring ok h' room first items cs :=
  ⟨s.1, fun i x hx => ItmC.imp (s.2 i x hx) (fun _ _ q => q) (keep_of k hL)⟩

theorem QAt.kept {ok : Nat → Prop} {h h' : H} {b : Nat} {lk : Int} {r : Option Nat} {first : Nat} {q : Qm} {L : List Nat} (s : QAt ok h b lk r first q) (k : Kept h h' L) (hb : b ∉ L) (hr : ∀ c, r = some c → c ∉ L) (hL : ∀ c ∈ L, ¬ ok c) : QAt ok h' b lk r first q := by
  refine ⟨(k.get (lt_of_get s.at') hb).trans s.at', s.no, ?_, s.okb⟩
  intro c e
  obtain ⟨h1, h2, h3, h4, cs, h5, h6⟩ := s.yes c e
  exact ⟨h1, h2, h3, h4, cs, (k.get (lt_of_get h5) (hr c e)).trans h5, h6.kc k.c hL⟩

theorem QAt.frame {ok : Nat → Prop} {h h' : H} {b : Nat} {lk : Int} {r : Option Nat} {first : Nat} {q : Qm} (s : QAt ok h b lk r first q) (k : Kept h h' []) : QAt ok h' b lk r first q := s.kept k (by simp) (by simp) (by simp)

theorem at_eq {F : Nat} (hF : 1 ≤ F) {ok : Nat → Prop} {h : H} {b : Nat} {lk : Int} {r first : Nat} {q : Qm} (s : QAt ok h b lk (some r) first q) (g : q.Good) (k : Nat) (hk : k ≤ 64) :
    cf F 43 [.pointer (some ⟨b, 0, none⟩), .int .i64 k] h = some (.pointer (some ⟨r, (first + k) % q.room * 5, none⟩), h) := by
  obtain ⟨F, rfl⟩ : ∃ G, F = G + 1 := ⟨F - 1, by omega⟩
  have hb := s.at'
  obtain ⟨h1, h2, h3, h4, cs, h5, h6⟩ := s.yes r rfl
  have hg := g.room
  rw [cf_step (a := a43) rfl rfl (by simp [a43])]
  have hw : IntKind.i64.wrap ((first : Int) + (k : Int)) = (first : Int) + (k : Int) := wrap_id (by omega) (by omega)
  have hm : ((first : Int) + (k : Int)).tmod (q.room : Int) = (((first + k) % q.room : Nat) : Int) := by
    rw [Int.tmod_eq_emod_of_nonneg (by omega)]; rfl
  have hlt : (first + k) % q.room < q.room := Nat.mod_lt _ h1
  have hz : ¬ q.room = 0 := by omega
  have hbs := lt_of_get hb
  generalize (first + k) % q.room = p at hm hlt ⊢
  simp (disch := first | omega | (simp only [newRow_size, Array.size_setIfInBounds, Array.size_push]; done) | (simp only [newRow_size, Array.size_setIfInBounds, Array.size_push]; omega)) [a43, r43_0, d43_1, hb, qcells, hw, hm, hz, eqT, eqF, neT, neF, ltT, ltF, leT, leF, nltT, nltF, nleT, nleF, nneT, nneF, flipX, List.getElem?_cons_zero, List.getElem?_cons_succ]

theorem held_eq {F : Nat} (hF : 2 ≤ F) {ok : Nat → Prop} {h : H} {b : Nat} {r : Option Nat} {first : Nat} {q : Qm} (s : QAt ok h b 0 r first q) :
    cf F 42 [.pointer (some ⟨b, 0, none⟩)] h = some (.func (.func 60) #[.pointer (some ⟨b, 0, none⟩)] #[], h.setIfInBounds b (.cells (qcells 1 r first q) 0 true [])) := by
  obtain ⟨F, rfl⟩ : ∃ G, F = G + 1 := ⟨F - 1, by omega⟩
  have hb := s.at'
  have hbs := lt_of_get hb
  rw [cf_step (a := a42) rfl rfl (by simp [a42])]
  simp (disch := first | omega | (simp only [newRow_size, Array.size_setIfInBounds, Array.size_push]; done) | (simp only [newRow_size, Array.size_setIfInBounds, Array.size_push]; omega)) [a42, r42_0, r42_1, r42_2, hb, qcells, lock_eq (F := F) (by omega), eqT, eqF, neT, neF, ltT, ltF, leT, leF, nltT, nltF, nleT, nleF, nneT, nneF, flipX, List.getElem?_cons_zero, List.getElem?_cons_succ]

theorem fits_eq {F : Nat} (hF : 1 ≤ F) {ok : Nat → Prop} {h : H} {b : Nat} {lk : Int} {r : Option Nat} {first : Nat} {q : Qm} (s : QAt ok h b lk r first q) (stamp : Int) :
    cf F 50 [.pointer (some ⟨b, 0, none⟩), .int .i64 stamp] h = some (.int .i64 (fitsM q.last stamp), h) := by
  obtain ⟨F, rfl⟩ : ∃ G, F = G + 1 := ⟨F - 1, by omega⟩
  have hb := s.at'
  have hbs := lt_of_get hb
  rw [cf_step (a := a50) rfl rfl (by simp [a50])]
  unfold fitsM
  by_cases c1 : 2147483647 < stamp
  · simp (disch := first | omega | (simp only [newRow_size, Array.size_setIfInBounds, Array.size_push]; done) | (simp only [newRow_size, Array.size_setIfInBounds, Array.size_push]; omega)) [a50, r50_0, r50_1, r50_2, r50_3, r50_4, r50_5, hb, qcells, eqT, eqF, neT, neF, ltT, ltF, leT, leF, nltT, nltF, nleT, nleF, nneT, nneF, flipX, List.getElem?_cons_zero, List.getElem?_cons_succ]
  · by_cases c2 : stamp ≤ q.last
    · simp (disch := first | omega | (simp only [newRow_size, Array.size_setIfInBounds, Array.size_push]; done) | (simp only [newRow_size, Array.size_setIfInBounds, Array.size_push]; omega)) [a50, r50_0, r50_1, r50_2, r50_3, r50_4, r50_6, r50_7, hb, qcells, eqT, eqF, neT, neF, ltT, ltF, leT, leF, nltT, nltF, nleT, nleF, nneT, nneF, flipX, List.getElem?_cons_zero, List.getElem?_cons_succ]
    · simp (disch := first | omega | (simp only [newRow_size, Array.size_setIfInBounds, Array.size_push]; done) | (simp only [newRow_size, Array.size_setIfInBounds, Array.size_push]; omega)) [a50, r50_0, r50_1, r50_2, r50_3, r50_4, r50_6, r50_8, hb, qcells, eqT, eqF, neT, neF, ltT, ltF, leT, leF, nltT, nltF, nleT, nleF, nneT, nneF, flipX, List.getElem?_cons_zero, List.getElem?_cons_succ]

theorem fits_nil {F : Nat} (hF : 1 ≤ F) (h : H) (stamp : Int) :
    cf F 50 [.pointer none, .int .i64 stamp] h = some (.int .i64 (fitsM 0 stamp), h) := by
  obtain ⟨F, rfl⟩ : ∃ G, F = G + 1 := ⟨F - 1, by omega⟩
  rw [cf_step (a := a50) rfl rfl (by simp [a50])]
  unfold fitsM
  by_cases c1 : 2147483647 < stamp
  · simp (disch := first | omega | (simp only [newRow_size, Array.size_setIfInBounds, Array.size_push]; done) | (simp only [newRow_size, Array.size_setIfInBounds, Array.size_push]; omega)) [a50, r50_0, r50_1, r50_2, r50_4, r50_5, eqT, eqF, neT, neF, ltT, ltF, leT, leF, nltT, nltF, nleT, nleF, nneT, nneF, flipX, List.getElem?_cons_zero, List.getElem?_cons_succ]
  · by_cases c2 : stamp ≤ 0
    · simp (disch := first | omega | (simp only [newRow_size, Array.size_setIfInBounds, Array.size_push]; done) | (simp only [newRow_size, Array.size_setIfInBounds, Array.size_push]; omega)) [a50, r50_0, r50_1, r50_2, r50_4, r50_6, r50_7, eqT, eqF, neT, neF, ltT, ltF, leT, leF, nltT, nltF, nleT, nleF, nneT, nneF, flipX, List.getElem?_cons_zero, List.getElem?_cons_succ]
    · simp (disch := first | omega | (simp only [newRow_size, Array.size_setIfInBounds, Array.size_push]; done) | (simp only [newRow_size, Array.size_setIfInBounds, Array.size_push]; omega)) [a50, r50_0, r50_1, r50_2, r50_4, r50_6, r50_8, eqT, eqF, neT, neF, ltT, ltF, leT, leF, nltT, nltF, nleT, nleF, nneT, nneF, flipX, List.getElem?_cons_zero, List.getElem?_cons_succ]

theorem mod_ne {room first k n : Nat} (h1 : k < n) (h2 : n < room) : (first + k) % room ≠ (first + n) % room := by
  intro e
  have h3 : (first + n) % room = ((first + k) % room + (n - k)) % room := by
    rw [show first + n = (first + k) + (n - k) by omega, Nat.add_mod]
    simp
  rw [← e] at h3
  have hlt : (first + k) % room < room := Nat.mod_lt _ (by omega)
  generalize (first + k) % room = a at h3 hlt
  by_cases c : a + (n - k) < room
  · rw [Nat.mod_eq_of_lt c] at h3; omega
  · rw [Nat.mod_eq_sub_mod (by omega), Nat.mod_eq_of_lt (by omega)] at h3; omega

theorem splice_drop (cs new : List Value) {p q room : Nat} (hl : cs.length = room * 5) (hp : p < room) (hq : q < room) (hn : new.length = 5) :
    (((cs.take (p * 5) ++ new ++ cs.drop (p * 5 + 5)).drop (q * 5)).take 5) = if q = p then new else (cs.drop (q * 5)).take 5 := by
  apply List.ext_getElem?
  intro i
  by_cases hi : i < 5
  · rw [List.getElem?_take, if_pos hi, List.getElem?_drop]
    have hsp := splice_get cs new (p * 5) (q * 5 + i) (by omega)
    rw [hn] at hsp
    rw [hsp]
    by_cases e : q = p
    · rw [if_pos e]
      subst e
      rw [if_neg (by omega), if_pos (by omega)]
      congr 1; omega
    · rw [if_neg e, List.getElem?_take, if_pos hi, List.getElem?_drop]
      by_cases c : q * 5 + i < p * 5
      · rw [if_pos c]
      · rw [if_neg c, if_neg (by omega)]
  · rw [List.getElem?_eq_none (by simp; omega)]
    split
    · rw [List.getElem?_eq_none (by omega)]
    · rw [List.getElem?_eq_none (by simp; omega)]

theorem Ring.put {ok : Nat → Prop} {h : H} {room first : Nat} {items : List Itm} {cs new : List Value} {x : Itm} (s : Ring ok h room first items cs) (hlt : items.length < room) (hf : first < room) (hx : ItmC ok h new x) (hn : new.length = 5) :
    Ring ok h room first (items ++ [x]) (cs.take ((first + items.length) % room * 5) ++ new ++ cs.drop ((first + items.length) % room * 5 + 5)) := by
  have hp : (first + items.length) % room < room := Nat.mod_lt _ (by omega)
  refine ⟨?_, ?_⟩
  · have := s.1
    simp [hn]; omega
  · intro k y hy
    have hk := (List.getElem?_eq_some_iff.1 hy).1
    simp at hk
    have hq : (first + k) % room < room := Nat.mod_lt _ (by omega)
    rw [splice_drop cs new s.1 hp hq hn]
    by_cases e : k = items.length
    · subst e
      rw [if_pos rfl]
      simp at hy
      subst hy
      exact hx
    · rw [if_neg (mod_ne (by omega) hlt)]
      rw [List.getElem?_append_left (by omega)] at hy
      exact s.2 k y hy

end Go.Proofs.Ytkkagpchcefidaa

/- The program's queue: New, Len, Last, put; ContainsFunc over changes without tags. -/
set_option linter.unusedSimpArgs false
set_option linter.unusedVariables false
namespace Go.Proofs.Ytkkagpchcefidaa
open Go.Ev

theorem set_same {h : H} {b : Nat} {x : Blk} (hb : hget h b = some x) : Array.setIfInBounds h b x = h := by
  have hb' : h[b]? = some x := hb
  obtain ⟨h1, h2⟩ := Array.getElem?_eq_some_iff.1 hb'
  apply Array.ext
  · simp
  · intro i h3 h4
    rw [Array.getElem_setIfInBounds]
    by_cases e : b = i
    · subst e; simp [h2]
    · rw [if_neg e]

theorem Last_eq {F : Nat} (hF : 3 ≤ F) {ok : Nat → Prop} {h : H} {b : Nat} {r : Option Nat} {first : Nat} {q : Qm} (s : QAt ok h b 0 r first q) :
    cf F 24 [.pointer (some ⟨b, 0, none⟩)] h = some (.int .i64 q.last, h) := by
  obtain ⟨F, rfl⟩ : ∃ G, F = G + 1 := ⟨F - 1, by omega⟩
  have hb := s.at'
  have hbs := lt_of_get hb
  rw [cf_step (a := a24) rfl rfl (by simp [a24])]
  simp (disch := first | omega | (simp only [newRow_size, Array.size_setIfInBounds, Array.size_push]; done) | (simp only [newRow_size, Array.size_setIfInBounds, Array.size_push]; omega)) [a24, r24_0, r24_1, r24_3, r24_4, evP_call, held_eq (F := F) (by omega) s, deferK_v, deferV_fn, qcells, eqT, eqF, neT, neF, ltT, ltF, leT, leF, nltT, nltF, nleT, nleF, nneT, nneF, flipX, List.getElem?_cons_zero, List.getElem?_cons_succ]
  exact set_same hb

theorem Len_eq {F : Nat} (hF : 3 ≤ F) {ok : Nat → Prop} {h : H} {b : Nat} {r : Option Nat} {first : Nat} {q : Qm} (s : QAt ok h b 0 r first q) :
    cf F 25 [.pointer (some ⟨b, 0, none⟩)] h = some (.int .i64 q.items.length, h) := by
  obtain ⟨F, rfl⟩ : ∃ G, F = G + 1 := ⟨F - 1, by omega⟩
  have hb := s.at'
  have hbs := lt_of_get hb
  rw [cf_step (a := a25) rfl rfl (by simp [a25])]
  simp (disch := first | omega | (simp only [newRow_size, Array.size_setIfInBounds, Array.size_push]; done) | (simp only [newRow_size, Array.size_setIfInBounds, Array.size_push]; omega)) [a25, r25_0, r25_1, r25_3, r25_4, evP_call, held_eq (F := F) (by omega) s, deferK_v, deferV_fn, qcells, eqT, eqF, neT, neF, ltT, ltF, leT, leF, nltT, nltF, nleT, nleF, nneT, nneF, flipX, List.getElem?_cons_zero, List.getElem?_cons_succ]
  exact set_same hb

theorem New_bad1 {F : Nat} (hF : 1 ≤ F) (h : H) (n m : Int) (hn : n < 1 ∨ 32 < n) : cf F 16 [.int .i64 n, .int .i64 m] h = some (.tuple ⟨[.pointer none, .int .i64 1]⟩, h) := by
  obtain ⟨F, rfl⟩ : ∃ G, F = G + 1 := ⟨F - 1, by omega⟩
  rw [cf_step (a := a16) rfl rfl (by simp [a16])]
  by_cases h1 : n < 1
  · simp (disch := first | omega | (simp only [newRow_size, Array.size_setIfInBounds, Array.size_push]; done) | (simp only [newRow_size, Array.size_setIfInBounds, Array.size_push]; omega)) [a16, r16_0, r16_1, r16_2, eqT, eqF, neT, neF, ltT, ltF, leT, leF, nltT, nltF, nleT, nleF, nneT, nneF, flipX, List.getElem?_cons_zero, List.getElem?_cons_succ]
  · simp (disch := first | omega | (simp only [newRow_size, Array.size_setIfInBounds, Array.size_push]; done) | (simp only [newRow_size, Array.size_setIfInBounds, Array.size_push]; omega)) [a16, r16_0, r16_1, r16_2, eqT, eqF, neT, neF, ltT, ltF, leT, leF, nltT, nltF, nleT, nleF, nneT, nneF, flipX, List.getElem?_cons_zero, List.getElem?_cons_succ]
theorem New_bad2 {F : Nat} (hF : 1 ≤ F) (h : H) (n m : Int) (h1 : 1 ≤ n) (h2 : n ≤ 32) (hm : m < 0 ∨ 2147483647 < m) : cf F 16 [.int .i64 n, .int .i64 m] h = some (.tuple ⟨[.pointer none, .int .i64 3]⟩, h) := by
  obtain ⟨F, rfl⟩ : ∃ G, F = G + 1 := ⟨F - 1, by omega⟩
  rw [cf_step (a := a16) rfl rfl (by simp [a16])]
  by_cases h1 : m < 0
  · simp (disch := first | omega | (simp only [newRow_size, Array.size_setIfInBounds, Array.size_push]; done) | (simp only [newRow_size, Array.size_setIfInBounds, Array.size_push]; omega)) [a16, r16_0, r16_1, r16_3, r16_4, eqT, eqF, neT, neF, ltT, ltF, leT, leF, nltT, nltF, nleT, nleF, nneT, nneF, flipX, List.getElem?_cons_zero, List.getElem?_cons_succ]
  · simp (disch := first | omega | (simp only [newRow_size, Array.size_setIfInBounds, Array.size_push]; done) | (simp only [newRow_size, Array.size_setIfInBounds, Array.size_push]; omega)) [a16, r16_0, r16_1, r16_3, r16_4, eqT, eqF, neT, neF, ltT, ltF, leT, leF, nltT, nltF, nleT, nleF, nneT, nneF, flipX, List.getElem?_cons_zero, List.getElem?_cons_succ]

def NewPost (h : H) (n m : Int) (v : Value) (h' : H) : Prop := ∃ b r, v = .tuple ⟨[.pointer (some ⟨b, 0, none⟩), .int .i64 0]⟩ ∧ (∀ ok : Nat → Prop, ¬ ok b → ¬ ok r → QAt ok h' b 0 (some r) 0 (Qm.new n m)) ∧ h.size ≤ b ∧ h.size ≤ r ∧ b < h'.size ∧ r < h'.size ∧ r ≠ b ∧ Kept h h' []

theorem New_spec {F : Nat} (hF : 1 ≤ F) (h : H) (n m : Int) (h1 : 1 ≤ n) (h2 : n ≤ 32) (h3 : 0 ≤ m) (h4 : m ≤ 2147483647) : Ans (cf F 16 [.int .i64 n, .int .i64 m] h) (NewPost h n m) := by
  obtain ⟨F, rfl⟩ : ∃ G, F = G + 1 := ⟨F - 1, by omega⟩
  rw [cf_step (a := a16) rfl rfl (by simp [a16])]
  have hb : 72 * n.toNat ≤ 140737488355328 := by omega
  have hc : n ≤ 9223372036854775807 := by omega
  simp (disch := first | omega | (simp only [newRow_size, Array.size_setIfInBounds, Array.size_push]; done) | (simp only [newRow_size, Array.size_setIfInBounds, Array.size_push]; omega)) [a16, r16_0, r16_1, r16_3, r16_5, hb, hc, eqT, eqF, neT, neF, ltT, ltF, leT, leF, nltT, nltF, nleT, nleF, nneT, nneF, flipX, List.getElem?_cons_zero, List.getElem?_cons_succ]
  refine Ans.of ⟨h.size + 1, h.size, rfl, ?_, (by first | omega | (simp only [newRow_size, Array.size_setIfInBounds, Array.size_push]; done) | (simp only [newRow_size, Array.size_setIfInBounds, Array.size_push]; omega)), (by first | omega | (simp only [newRow_size, Array.size_setIfInBounds, Array.size_push]; done) | (simp only [newRow_size, Array.size_setIfInBounds, Array.size_push]; omega)), (by first | omega | (simp only [newRow_size, Array.size_setIfInBounds, Array.size_push]; done) | (simp only [newRow_size, Array.size_setIfInBounds, Array.size_push]; omega)), (by first | omega | (simp only [newRow_size, Array.size_setIfInBounds, Array.size_push]; done) | (simp only [newRow_size, Array.size_setIfInBounds, Array.size_push]; omega)), by omega, (by first | omega | (simp only [newRow_size, Array.size_setIfInBounds, Array.size_push]; done) | (simp only [newRow_size, Array.size_setIfInBounds, Array.size_push]; omega)), fun c hc _ => by simp (disch := first | omega | (simp only [newRow_size, Array.size_setIfInBounds, Array.size_push]; done) | (simp only [newRow_size, Array.size_setIfInBounds, Array.size_push]; omega)) []⟩
  intro ok ob or
  refine ⟨?_, by simp, ?_, ob⟩
  · simp (disch := first | omega | (simp only [newRow_size, Array.size_setIfInBounds, Array.size_push]; done) | (simp only [newRow_size, Array.size_setIfInBounds, Array.size_push]; omega)) [qcells, Qm.new]
  · intro c e
    cases e
    refine ⟨by simp [Qm.new]; omega, by simp [Qm.new]; omega, by omega, or, (List.replicate n.toNat [Value.int .i64 0, .int .i64 0, .bool false, .slice none 0 0, .slice none 0 0]).flatten, by simp (disch := first | omega | (simp only [newRow_size, Array.size_setIfInBounds, Array.size_push]; done) | (simp only [newRow_size, Array.size_setIfInBounds, Array.size_push]; omega)) [], by simp [Qm.new], by simp [Qm.new]⟩

theorem put_spec {F : Nat} (hF : 2 ≤ F) {ok : Nat → Prop} {h : H} {b : Nat} {r first : Nat} {q : Qm} (s : QAt ok h b 1 (some r) first q) (g : q.Good) (hlt : q.items.length < q.room) {x : Itm} {v w : Value}
    (hx : ItmC ok h [.int .i64 x.stamp, .int .i64 x.after, .bool x.marker, v, w] x) (ov : oneCell v = true) (ow : oneCell w = true) :
    Ans (cf F 53 [.pointer (some ⟨b, 0, none⟩), .agg ⟨[.int .i64 x.stamp, .int .i64 x.after, .bool x.marker, v, w]⟩] h) fun u h' => u = .tuple ⟨[]⟩ ∧ QAt ok h' b 1 (some r) first ⟨q.room, q.items ++ [x], x.stamp⟩ ∧ Kept h h' [b, r] := by
  obtain ⟨F, rfl⟩ : ∃ G, F = G + 1 := ⟨F - 1, by omega⟩
  have hb := s.at'
  have hbs := lt_of_get hb
  obtain ⟨h1, h2, h3, h4, cs, h5, h6⟩ := s.yes r rfl
  have hrs := lt_of_get h5
  have hroom := g.room
  have hw1 : IntKind.i64.wrap ((q.items.length : Int) + 1) = (q.items.length : Int) + 1 := wrap_id (by omega) (by omega)
  have hw2 : IntKind.i64.wrap (q.items.length : Int) = (q.items.length : Int) := wrap_id (by omega) (by omega)
  rw [cf_step (a := a53) rfl rfl (by simp [a53])]
  have ov' := ov
  have ow' := ow
  simp only [oneCell] at ov' ow'
  simp (disch := first | omega | (simp only [newRow_size, Array.size_setIfInBounds, Array.size_push]; done) | (simp only [newRow_size, Array.size_setIfInBounds, Array.size_push]; omega)) [a53, r53_0, r53_1, hb, qcells, hw1, hw2, eqT, eqF, neT, neF, ltT, ltF, leT, leF, nltT, nltF, nleT, nleF, nneT, nneF, flipX, List.getElem?_cons_zero, List.getElem?_cons_succ, d53_2]
  have hbr : ¬ b = r := fun e => h3 e.symm
  obtain ⟨E, hE⟩ : ∃ E, E = Array.setIfInBounds (Ev.newRow h [.int .i64 x.stamp, .int .i64 x.after, .bool x.marker, v, w] 0 []) b (.cells [.int .i32 1, .int .u32 0, rsl (some r) q.room, .int .i64 first, .int .i64 ((q.items.length : Int) + 1), .int .i64 q.last] 0 true []) := ⟨_, rfl⟩
  have hat : cf F 43 [.pointer (some ⟨b, 0, none⟩), .int .i64 q.items.length] E = some (.pointer (some ⟨r, (first + q.items.length) % q.room * 5, none⟩), E) := by
    obtain ⟨F, rfl⟩ : ∃ G, F = G + 1 := ⟨F - 1, by omega⟩
    rw [cf_step (a := a43) rfl rfl (by simp [a43])]
    have hlen := g.len
    have hw : IntKind.i64.wrap ((first : Int) + (q.items.length : Int)) = (first : Int) + (q.items.length : Int) := wrap_id (by omega) (by omega)
    have hm : ((first : Int) + (q.items.length : Int)).tmod (q.room : Int) = (((first + q.items.length) % q.room : Nat) : Int) := by
      rw [Int.tmod_eq_emod_of_nonneg (by omega)]; rfl
    have hlt : (first + q.items.length) % q.room < q.room := Nat.mod_lt _ h1
    have hz : ¬ q.room = 0 := by omega
    generalize (first + q.items.length) % q.room = p at hm hlt ⊢
    have hbE : hget E b = some (.cells [.int .i32 1, .int .u32 0, .slice (some ⟨r, 0, none⟩) q.room q.room, .int .i64 first, .int .i64 ((q.items.length : Int) + 1), .int .i64 q.last] 0 true []) := by rw [hE]; simp (disch := first | omega | (simp only [newRow_size, Array.size_setIfInBounds, Array.size_push]; done) | (simp only [newRow_size, Array.size_setIfInBounds, Array.size_push]; omega)) []
    simp (disch := first | omega | (simp only [newRow_size, Array.size_setIfInBounds, Array.size_push]; done) | (simp only [newRow_size, Array.size_setIfInBounds, Array.size_push]; omega)) [a43, r43_0, d43_1, hbE, hw, hm, hz, eqT, eqF, neT, neF, ltT, ltF, leT, leF, nltT, nltF, nleT, nleF, nneT, nneF, flipX, List.getElem?_cons_zero, List.getElem?_cons_succ]
  have hp : (first + q.items.length) % q.room < q.room := Nat.mod_lt _ h1
  have hput := h6.put (x := x) hlt h2 hx rfl
  generalize (first + q.items.length) % q.room = p at hat hp hput
  have hcl := h6.1
  have hrE : hget E r = some (.cells cs 5 true []) := by rw [hE]; simp (disch := first | omega | (simp only [newRow_size, Array.size_setIfInBounds, Array.size_push]; done) | (simp only [newRow_size, Array.size_setIfInBounds, Array.size_push]; omega)) [h5]
  simp only [rsl_some] at hE
  rw [← hE, hat]
  have hbE : hget E b = some (.cells [.int .i32 1, .int .u32 0, .slice (some ⟨r, 0, none⟩) q.room q.room, .int .i64 first, .int .i64 ((q.items.length : Int) + 1), .int .i64 q.last] 0 true []) := by rw [hE]; simp (disch := first | omega | (simp only [newRow_size, Array.size_setIfInBounds, Array.size_push]; done) | (simp only [newRow_size, Array.size_setIfInBounds, Array.size_push]; omega)) []
  have hxE : hget E h.size = some (.cells [.int .i64 x.stamp, .int .i64 x.after, .bool x.marker, v, w] 0 true []) := by rw [hE]; simp (disch := first | omega | (simp only [newRow_size, Array.size_setIfInBounds, Array.size_push]; done) | (simp only [newRow_size, Array.size_setIfInBounds, Array.size_push]; omega)) []
  have zE : E.size = h.size + 1 := by rw [hE]; simp
  have hvs : sameCell v v = true := by
    obtain ⟨v', w', e, s1, s2⟩ := hx
    injection e with _ e; injection e with _ e; injection e with _ e; injection e with e1 e; injection e with e2 _
    subst e1; exact s1.same
  have hws : sameCell w w = true := by
    obtain ⟨v', w', e, s1, s2⟩ := hx
    injection e with _ e; injection e with _ e; injection e with _ e; injection e with e1 e; injection e with e2 _
    subst e2; exact s2.same
  simp only [sameCell] at hvs hws
  simp (disch := first | omega | (simp only [newRow_size, Array.size_setIfInBounds, Array.size_push]; done) | (simp only [newRow_size, Array.size_setIfInBounds, Array.size_push]; omega)) [hrE, hbE, hxE, eqT, eqF, neT, neF, ltT, ltF, leT, leF, nltT, nltF, nleT, nleF, nneT, nneF, flipX, List.getElem?_cons_zero, List.getElem?_cons_succ, ov', ow', dk_go, chks_nil, chks_cons, chkA_nil, chkA_cons, chk1_no, chk1_yes, chkV_some, hAt_eq, hOf_some, hOf_none, sameV, sameL, sameCell, hvs, hws, hcl, r53_3]
  simp only [List.append_assoc, List.cons_append, List.nil_append] at hput
  generalize cs.take (p * 5) ++ Value.int .i64 x.stamp :: .int .i64 x.after :: .bool x.marker :: v :: w :: cs.drop (p * 5 + 5) = cs2 at hput ⊢
  have kF : Kept h (Array.setIfInBounds (Array.setIfInBounds E r (.cells cs2 5 true [])) b (.cells [.int .i32 1, .int .u32 0, .slice (some ⟨r, 0, none⟩) q.room q.room, .int .i64 first, .int .i64 ((q.items.length : Int) + 1), .int .i64 x.stamp] 0 true [])) [b, r] := by
    refine ⟨by simp; omega, fun c hc hn => ?_⟩
    simp only [List.mem_cons, List.not_mem_nil, or_false, not_or] at hn
    have n1 : ¬ b = c := fun e => hn.1 e.symm
    have n2 : ¬ r = c := fun e => hn.2 e.symm
    rw [set_other n1, set_other n2, hE]
    simp (disch := first | omega | (simp only [newRow_size, Array.size_setIfInBounds, Array.size_push]; done) | (simp only [newRow_size, Array.size_setIfInBounds, Array.size_push]; omega)) []
  refine Ans.of ⟨rfl, ⟨?_, by simp, ?_, s.okb⟩, kF⟩
  · simp (disch := first | omega | (simp only [newRow_size, Array.size_setIfInBounds, Array.size_push]; done) | (simp only [newRow_size, Array.size_setIfInBounds, Array.size_push]; omega)) [qcells]
  · intro c e
    cases e
    refine ⟨h1, h2, h3, h4, cs2, ?_, ?_⟩
    · rw [set_other hbr]; simp (disch := first | omega | (simp only [newRow_size, Array.size_setIfInBounds, Array.size_push]; done) | (simp only [newRow_size, Array.size_setIfInBounds, Array.size_push]; omega)) []
    · refine hput.kc kF.c ?_
      intro c hc
      simp only [List.mem_cons, List.not_mem_nil, or_false] at hc
      rcases hc with rfl | rfl
      · exact s.okb
      · exact h4

/-- Has a change no tag? -/
def bare (l : List Tgd) : Bool := l.any fun t => t.tags.isEmpty

theorem bare_iff (l : List Tgd) : bare l = true ↔ ∃ t ∈ l, t.tags = [] := by
  simp [bare, List.isEmpty_iff]

theorem noTag_spec {F : Nat} (hF : 1 ≤ F) {ok : Nat → Prop} {h : H} {cs : List Value} {t : Tgd} (s : TgdC ok h cs t) : Ans (cf F 52 [.agg ⟨cs⟩] h) fun u h' => u = .bool t.tags.isEmpty ∧ Kept h h' [] := by
  obtain ⟨F, rfl⟩ : ∃ G, F = G + 1 := ⟨F - 1, by omega⟩
  obtain ⟨v, rfl, s⟩ := s
  have hl := s.len
  rw [cf_step (a := a52) rfl rfl (by simp [a52])]
  cases ht : t.tags with
  | nil =>
    rw [ht] at hl
    simp (disch := first | omega | (simp only [newRow_size, Array.size_setIfInBounds, Array.size_push]; done) | (simp only [newRow_size, Array.size_setIfInBounds, Array.size_push]; omega)) [a52, r52_0, r52_1, hl, eqT, eqF, neT, neF, ltT, ltF, leT, leF, nltT, nltF, nleT, nleF, nneT, nneF, flipX, List.getElem?_cons_zero, List.getElem?_cons_succ]
    exact Ans.of ⟨rfl, rowKept _ _ _ _⟩
  | cons x l =>
    rw [ht] at hl
    simp at hl
    simp (disch := first | omega | (simp only [newRow_size, Array.size_setIfInBounds, Array.size_push]; done) | (simp only [newRow_size, Array.size_setIfInBounds, Array.size_push]; omega)) [a52, r52_0, r52_1, hl, eqT, eqF, neT, neF, ltT, ltF, leT, leF, nltT, nltF, nleT, nleF, nneT, nneF, flipX, List.getElem?_cons_zero, List.getElem?_cons_succ]
    exact Ans.of ⟨rfl, rowKept _ _ _ _⟩

theorem index_spec {F : Nat} (hF : 17592186044420 ≤ F) {ok : Nat → Prop} {h : H} {v : Value} {xs : List Tgd} (s : SlR ok 5 (TgdC ok) h v xs) (hs : xs.length ≤ 1954687338268) :
    Ans (cf F 64 [v, .func (.func 52) #[] #[]] h) fun u h' => (∃ n : Int, u = .int .i64 n ∧ (0 ≤ n ↔ bare xs = true)) ∧ Kept h h' [] := by
  generalize hQ : (fun (u : Value) (h' : H) => (∃ n : Int, u = .int .i64 n ∧ (0 ≤ n ↔ bare xs = true)) ∧ Kept h h' []) = Q
  obtain ⟨F, rfl⟩ : ∃ G, F = G + 1 := ⟨F - 1, by omega⟩
  rw [cf_step (a := a64) rfl rfl (by simp [a64])]
  have hl := s.len
  simp (disch := first | omega | (simp only [newRow_size, Array.size_setIfInBounds, Array.size_push]; done) | (simp only [newRow_size, Array.size_setIfInBounds, Array.size_push]; omega)) [a64, r64_0, r64_1, hl, eqT, eqF, neT, neF, ltT, ltF, leT, leF, nltT, nltF, nleT, nleF, nneT, nneF, flipX, List.getElem?_cons_zero, List.getElem?_cons_succ]
  refine loop_rule (fun m e g => ∃ (i : Nat), m = xs.length - i ∧ i ≤ xs.length ∧ e = [(0, v), (1, .func (.func 52) #[] #[]), (7, .int .i64 xs.length), (8, .int .i64 i)] ∧ Kept h g [] ∧ bare (xs.take i) = false) ?_ _ xs.length _ _ (by omega) ⟨0, by omega, by omega, rfl, Kept.refl _ _, rfl⟩
  rintro m e g again ⟨i, rfl, hi, rfl, kg, hb⟩ ih
  by_cases hlt : i < xs.length
  · obtain ⟨x, hx⟩ : ∃ x, xs[i]? = some x := ⟨_, List.getElem?_eq_getElem hlt⟩
    obtain ⟨b, o, c, cs, es, lv, an, rfl, hk, hg, hle, hR⟩ := (SlTgd.frame s kg.c).at' hx
    have hw : IntKind.i64.wrap ((i : Int) + 1) = ((i + 1 : Nat) : Int) := by rw [IntKind.wrap_i64]; omega
    simp (disch := first | omega | (simp only [newRow_size, Array.size_setIfInBounds, Array.size_push]; done) | (simp only [newRow_size, Array.size_setIfInBounds, Array.size_push]; omega)) [l64_7, r64_2, r64_3, r64_4, hg, eqT, eqF, neT, neF, ltT, ltF, leT, leF, nltT, nltF, nleT, nleF, nneT, nneF, flipX, List.getElem?_cons_zero, List.getElem?_cons_succ]
    refine Ans.next (noTag_spec (F := F) (by omega) hR) ?_
    rintro u h2 ⟨rfl, k2⟩
    cases ht : x.tags.isEmpty with
    | true =>
      simp (disch := first | omega | (simp only [newRow_size, Array.size_setIfInBounds, Array.size_push]; done) | (simp only [newRow_size, Array.size_setIfInBounds, Array.size_push]; omega)) [r64_5, eqT, eqF, neT, neF, ltT, ltF, leT, leF, nltT, nltF, nleT, nleF, nneT, nneF, flipX, List.getElem?_cons_zero, List.getElem?_cons_succ]
      refine Ans.of ?_
      subst hQ
      refine ⟨⟨i, rfl, ?_⟩, kg.trans k2⟩
      constructor
      · intro _
        rw [bare_iff]
        exact ⟨x, List.mem_of_getElem? hx, List.isEmpty_iff.1 ht⟩
      · intro _; omega
    | false =>
      simp (disch := first | omega | (simp only [newRow_size, Array.size_setIfInBounds, Array.size_push]; done) | (simp only [newRow_size, Array.size_setIfInBounds, Array.size_push]; omega)) [r64_6, hw, eqT, eqF, neT, neF, ltT, ltF, leT, leF, nltT, nltF, nleT, nleF, nneT, nneF, flipX, List.getElem?_cons_zero, List.getElem?_cons_succ]
      refine ih _ _ _ (by omega) ⟨i + 1, rfl, by omega, rfl, kg.trans k2, ?_⟩
      rw [take_snoc hx]
      simp only [bare] at hb ⊢
      rw [List.any_append, hb]
      simp [ht]
  · have hxi : i = xs.length := by omega
    subst hxi
    rw [List.take_length] at hb
    simp (disch := first | omega | (simp only [newRow_size, Array.size_setIfInBounds, Array.size_push]; done) | (simp only [newRow_size, Array.size_setIfInBounds, Array.size_push]; omega)) [l64_7, r64_2, r64_8, eqT, eqF, neT, neF, ltT, ltF, leT, leF, nltT, nltF, nleT, nleF, nneT, nneF, flipX, List.getElem?_cons_zero, List.getElem?_cons_succ]
    refine Ans.of ?_
    subst hQ
    exact ⟨⟨-1, rfl, by rw [hb]; simp⟩, kg⟩

theorem contains_spec {F : Nat} (hF : 17592186044421 ≤ F) {ok : Nat → Prop} {h : H} {v : Value} {xs : List Tgd} (s : SlR ok 5 (TgdC ok) h v xs) (hs : xs.length ≤ 1954687338268) :
    Ans (cf F 51 [v, .func (.func 52) #[] #[]] h) fun u h' => u = .bool (bare xs) ∧ Kept h h' [] := by
  obtain ⟨F, rfl⟩ : ∃ G, F = G + 1 := ⟨F - 1, by omega⟩
  rw [cf_step (a := a51) rfl rfl (by simp [a51])]
  simp (disch := first | omega | (simp only [newRow_size, Array.size_setIfInBounds, Array.size_push]; done) | (simp only [newRow_size, Array.size_setIfInBounds, Array.size_push]; omega)) [a51, r51_0, r51_1, eqT, eqF, neT, neF, ltT, ltF, leT, leF, nltT, nltF, nleT, nleF, nneT, nneF, flipX, List.getElem?_cons_zero, List.getElem?_cons_succ]
  refine Ans.next (index_spec (F := F) (by omega) s hs) ?_
  rintro u h' ⟨⟨n, rfl, hn⟩, k⟩
  simp (disch := first | omega | (simp only [newRow_size, Array.size_setIfInBounds, Array.size_push]; done) | (simp only [newRow_size, Array.size_setIfInBounds, Array.size_push]; omega)) []
  refine Ans.of ⟨?_, k⟩
  cases hb : bare xs with
  | true => simp [hn.2 hb]
  | false =>
    have : ¬ 0 ≤ n := fun e => by rw [hn.1 e] at hb; cases hb
    simp [this]

end Go.Proofs.Ytkkagpchcefidaa

/- The program's queue: Put, Collapse. -/
set_option linter.unusedSimpArgs false
set_option linter.unusedVariables false
namespace Go.Proofs.Ytkkagpchcefidaa
open Go.Ev

theorem QAt.lock {ok : Nat → Prop} {h : H} {b : Nat} {lk : Int} {r : Option Nat} {first : Nat} {q : Qm} (s : QAt ok h b lk r first q) (lk' : Int) :
    QAt ok (h.setIfInBounds b (.cells (qcells lk' r first q) 0 true [])) b lk' r first q ∧ Kept h (h.setIfInBounds b (.cells (qcells lk' r first q) 0 true [])) [b] := by
  have hbs := lt_of_get s.at'
  have k : Kept h (h.setIfInBounds b (.cells (qcells lk' r first q) 0 true [])) [b] := ⟨by simp, fun c hc hn => by
    rw [List.mem_singleton] at hn
    have n1 : ¬ b = c := fun e => hn e.symm
    simp [n1]⟩
  refine ⟨⟨by simp [hbs], s.no, ?_, s.okb⟩, k⟩
  intro c e
  obtain ⟨h1, h2, h3, h4, cs, h5, h6⟩ := s.yes c e
  exact ⟨h1, h2, h3, h4, cs, (k.get (lt_of_get h5) (by simpa using h3)).trans h5, h6.kc k.c (by simpa using s.okb)⟩

theorem unl {ok : Nat → Prop} {g : H} {b : Nat} {r : Option Nat} {first : Nat} {q : Qm} (s : QAt ok g b 1 r first q) :
    flipX 1 0 [.pointer (some ⟨b, 0, none⟩)] g = some (.tuple ⟨[]⟩, g.setIfInBounds b (.cells (qcells 0 r first q) 0 true [])) := by
  have hb := s.at'
  simp only [qcells] at hb
  simp [flipX, hb, qcells]

def PutPost (ok : Nat → Prop) (h : H) (b : Nat) (r : Option Nat) (c : Int) (q' : Qm) (first' : Nat) (u : Value) (h' : H) : Prop :=
  u = .int .i64 c ∧ QAt ok h' b 0 r first' q' ∧ Kept h h' (b :: r.toList)

theorem Put_spec {F : Nat} (hF : 17592186044430 ≤ F) {ok ok2 : Nat → Prop} {h : H} {b : Nat} {r : Option Nat} {first : Nat} {q : Qm} (s : QAt ok h b 0 r first q) (g : q.Good) {v : Value} {l : List Tgd}
    (sl : SlR ok2 5 (TgdC ok2) h v l) (hb2 : ¬ ok2 b) (hs : ShortT l) (hok : ∀ c, h.size ≤ c → ok c) (stamp : Int) :
    Ans (cf F 27 [.pointer (some ⟨b, 0, none⟩), .int .i64 stamp, v] h) (PutPost ok h b r (putM q stamp l).1 (putM q stamp l).2 first) := by
  obtain ⟨F, rfl⟩ : ∃ G, F = G + 1 := ⟨F - 1, by omega⟩
  rw [cf_step (a := a27) rfl rfl (by simp [a27])]
  obtain ⟨s1, k1⟩ := s.lock 1
  simp (disch := first | omega | (simp only [newRow_size, Array.size_setIfInBounds, Array.size_push]; done) | (simp only [newRow_size, Array.size_setIfInBounds, Array.size_push]; omega)) [a27, r27_0, r27_1, r27_2, evP_call, held_eq (F := F) (by omega) s, deferK_v, deferV_fn, eqT, eqF, neT, neF, ltT, ltF, leT, leF, nltT, nltF, nleT, nleF, nneT, nneF, List.getElem?_cons_zero, List.getElem?_cons_succ]
  have sl1 := SlTgd.imp sl (ok' := ok2) (fun _ _ q => q) (keep_of k1.c (by simpa using hb2))
  have y1 : (h.setIfInBounds b (.cells (qcells 1 r first q) 0 true [])).size = h.size := by simp
  generalize h.setIfInBounds b (.cells (qcells 1 r first q) 0 true []) = h1 at s1 k1 sl1 y1 ⊢
  have hl := sl1.len
  have fin : ∀ (c : Int) (q' : Qm) (h2 : H), putM q stamp l = (c, q') → QAt ok h2 b 1 r first q' → Kept h1 h2 (b :: r.toList) →
      Ans (some (Value.int .i64 c, h2.setIfInBounds b (.cells (qcells 0 r first q') 0 true []))) (PutPost ok h b r (putM q stamp l).1 (putM q stamp l).2 first) := by
    intro c q' h2 e s2 k2
    obtain ⟨s3, k3⟩ := s2.lock 0
    rw [e]
    refine Ans.of ⟨rfl, s3, ?_⟩
    exact (k1.weak (by simp)).trans (k2.trans (k3.weak (by simp)))
  simp (disch := first | omega | (simp only [newRow_size, Array.size_setIfInBounds, Array.size_push]; done) | (simp only [newRow_size, Array.size_setIfInBounds, Array.size_push]; omega)) [r27_3, fits_eq (F := F) (by omega) s1, eqT, eqF, neT, neF, ltT, ltF, leT, leF, nltT, nltF, nleT, nleF, nneT, nneF, List.getElem?_cons_zero, List.getElem?_cons_succ]
  by_cases hf : fitsM q.last stamp = 0
  · by_cases hz : l.length = 0
    · have hl0 : l = [] := List.length_eq_zero_iff.1 hz
      have hm : putM q stamp l = (100, q) := by unfold putM; rw [if_neg (by simp [hf]), if_pos (.inl hl0)]
      simp (disch := first | omega | (simp only [newRow_size, Array.size_setIfInBounds, Array.size_push]; done) | (simp only [newRow_size, Array.size_setIfInBounds, Array.size_push]; omega)) [r27_4, hf, hl, r27_5, r27_6, r27_7, eqT, eqF, neT, neF, ltT, ltF, leT, leF, nltT, nltF, nleT, nleF, nneT, nneF, List.getElem?_cons_zero, List.getElem?_cons_succ, unl s1]
      exact fin _ _ _ hm s1 (Kept.refl _ _)
    · simp (disch := first | omega | (simp only [newRow_size, Array.size_setIfInBounds, Array.size_push]; done) | (simp only [newRow_size, Array.size_setIfInBounds, Array.size_push]; omega)) [r27_4, hf, hl, eqT, eqF, neT, neF, ltT, ltF, leT, leF, nltT, nltF, nleT, nleF, nneT, nneF, List.getElem?_cons_zero, List.getElem?_cons_succ]
      refine Ans.next (contains_spec (F := F) (by omega) sl1 hs.1) ?_
      rintro u h2 ⟨rfl, k2⟩
      have s2 := s1.frame k2
      have y2 := k2.1
      cases hb : bare l with
      | true =>
        have hm : putM q stamp l = (100, q) := by unfold putM; rw [if_neg (by simp [hf]), if_pos (.inr ((bare_iff l).1 hb))]
        simp (disch := first | omega | (simp only [newRow_size, Array.size_setIfInBounds, Array.size_push]; done) | (simp only [newRow_size, Array.size_setIfInBounds, Array.size_push]; omega)) [r27_5, r27_6, r27_7, eqT, eqF, neT, neF, ltT, ltF, leT, leF, nltT, nltF, nleT, nleF, nneT, nneF, List.getElem?_cons_zero, List.getElem?_cons_succ, unl s2]
        exact fin _ _ _ hm s2 (k2.of_nil)
      | false =>
        have hnb : ¬ (l = [] ∨ ∃ t ∈ l, t.tags = []) := by
          rintro (e | e)
          · exact hz (by rw [e]; rfl)
          · rw [(bare_iff l).2 e] at hb; cases hb
        have hbE := s2.at'
        simp only [qcells] at hbE
        have hroom := g.len
        have hlr : lenV (rsl r q.room) = some (.int .i64 q.room) := by
          cases r with
          | none => simp [(s2.no rfl).1]
          | some r => simp
        simp (disch := first | omega | (simp only [newRow_size, Array.size_setIfInBounds, Array.size_push]; done) | (simp only [newRow_size, Array.size_setIfInBounds, Array.size_push]; omega)) [r27_6, hf, eqT, eqF, neT, neF, ltT, ltF, leT, leF, nltT, nltF, nleT, nleF, nneT, nneF, List.getElem?_cons_zero, List.getElem?_cons_succ, d27_8, hbE, hlr]
        by_cases hfull : q.items.length = q.room
        · have hm : putM q stamp l = (46, q) := by unfold putM; rw [if_neg (by simp [hf]), if_neg hnb, if_pos (by omega)]
          simp (disch := first | omega | (simp only [newRow_size, Array.size_setIfInBounds, Array.size_push]; done) | (simp only [newRow_size, Array.size_setIfInBounds, Array.size_push]; omega)) [hfull, r27_9, eqT, eqF, neT, neF, ltT, ltF, leT, leF, nltT, nltF, nleT, nleF, nneT, nneF, List.getElem?_cons_zero, List.getElem?_cons_succ, unl s2]
          exact fin _ _ _ hm s2 (k2.of_nil)
        · have hm : putM q stamp l = (0, ⟨q.room, q.items ++ [⟨stamp, q.last, false, l, []⟩], stamp⟩) := by unfold putM; rw [if_neg (by simp [hf]), if_neg hnb, if_neg (by omega)]
          obtain ⟨r, rfl⟩ : ∃ c, r = some c := by
            cases r with
            | none => have := (s2.no rfl).1; omega
            | some r => exact ⟨r, rfl⟩
          have hbs := lt_of_get hbE
          simp (disch := first | omega | (simp only [newRow_size, Array.size_setIfInBounds, Array.size_push]; done) | (simp only [newRow_size, Array.size_setIfInBounds, Array.size_push]; omega)) [d27_10, hbE, eqT, eqF, neT, neF, ltT, ltF, leT, leF, nltT, nltF, nleT, nleF, nneT, nneF, List.getElem?_cons_zero, List.getElem?_cons_succ]
          have sl2 := SlTgd.imp sl1 (ok' := ok2) (fun _ _ q => q) (keep_of k2.c (by simp))
          refine Ans.nextD (copiedChanges_spec (F := F) (by omega) sl2 hs) ?_
          rintro v3 h3 ⟨b3, k3⟩
          have y3 := k3.1
          have s3 := s2.frame k3
          have hb3 := s3.at'
          simp only [qcells] at hb3
          have hvc := b3.sl.vc
          have hvo := b3.sl.one
          simp only [vcells] at hvc
          simp (disch := first | omega | (simp only [newRow_size, Array.size_setIfInBounds, Array.size_push]; done) | (simp only [newRow_size, Array.size_setIfInBounds, Array.size_push]; omega)) [hb3, hvc, eqT, eqF, neT, neF, ltT, ltF, leT, leF, nltT, nltF, nleT, nleF, nneT, nneF, List.getElem?_cons_zero, List.getElem?_cons_succ]
          have hx : ItmC ok h3 [.int .i64 stamp, .int .i64 q.last, .bool false, v3, .slice none 0 0] ⟨stamp, q.last, false, l, []⟩ := by
            refine ⟨v3, .slice none 0 0, rfl, ?_, .inl ⟨.inl rfl, rfl⟩⟩
            refine SlTgd.imp b3.sl (fun c _ hc => ?_) (fun c cs _ e => e)
            have : h2.size ≤ c := hc
            exact hok c (by omega)
          refine Ans.nextD (put_spec (F := F) (x := ⟨stamp, q.last, false, l, []⟩) (v := v3) (w := .slice none 0 0) (by omega) s3 g (by have := g.len; omega) hx hvo rfl) ?_
          rintro u h4 ⟨rfl, s4, k4⟩
          simp (disch := first | omega | (simp only [newRow_size, Array.size_setIfInBounds, Array.size_push]; done) | (simp only [newRow_size, Array.size_setIfInBounds, Array.size_push]; omega)) [hbE, hb3, hvc, eqT, eqF, neT, neF, ltT, ltF, leT, leF, nltT, nltF, nleT, nleF, nneT, nneF, List.getElem?_cons_zero, List.getElem?_cons_succ, dk_go, chks_nil, chks_cons, chkA_nil, chkA_cons, chk1_no, chk1_yes, chkV_some, hAt_eq, hOf_some, hOf_none, sameV, sameL, sameCell, r27_11, unl s4]
          exact fin _ _ _ hm s4 ((k2.of_nil).trans ((k3.of_nil).trans (k4.weak (by simp))))
  · have hm : putM q stamp l = (fitsM q.last stamp, q) := by unfold putM; rw [if_pos hf]
    simp (disch := first | omega | (simp only [newRow_size, Array.size_setIfInBounds, Array.size_push]; done) | (simp only [newRow_size, Array.size_setIfInBounds, Array.size_push]; omega)) [r27_4, hf, r27_6, r27_7, eqT, eqF, neT, neF, ltT, ltF, leT, leF, nltT, nltF, nleT, nleF, nneT, nneF, List.getElem?_cons_zero, List.getElem?_cons_succ, unl s1]
    exact fin _ _ _ hm s1 (Kept.refl _ _)

end Go.Proofs.Ytkkagpchcefidaa

/- The program's queue: Collapse. -/
set_option linter.unusedSimpArgs false
set_option linter.unusedVariables false
namespace Go.Proofs.Ytkkagpchcefidaa
open Go.Ev

def CollPost (ok : Nat → Prop) (h : H) (b : Nat) (r : Option Nat) (c : Int) (q' : Qm) (u : Value) (h' : H) : Prop :=
  ∃ first', PutPost ok h b r c q' first' u h'

theorem Collapse_spec {F : Nat} (hF : 17592186044430 ≤ F) {ok ok2 : Nat → Prop} {h : H} {b : Nat} {r : Option Nat} {first : Nat} {q : Qm} (s : QAt ok h b 0 r first q) (g : q.Good) {v : Value} {l : List Prt}
    (sl : SlR ok2 5 (PrtC ok2) h v l) (hb2 : ¬ ok2 b) (hr2 : ∀ c, r = some c → ¬ ok2 c) (hs : ShortP l) (hok : ∀ c, h.size ≤ c → ok c) (stamp : Int) :
    Ans (cf F 29 [.pointer (some ⟨b, 0, none⟩), .int .i64 stamp, v] h) (CollPost ok h b r (collM q stamp l).1 (collM q stamp l).2) := by
  obtain ⟨F, rfl⟩ : ∃ G, F = G + 1 := ⟨F - 1, by omega⟩
  rw [cf_step (a := a29) rfl rfl (by simp [a29])]
  obtain ⟨s1, k1⟩ := s.lock 1
  simp (disch := first | omega | (simp only [newRow_size, Array.size_setIfInBounds, Array.size_push]; done) | (simp only [newRow_size, Array.size_setIfInBounds, Array.size_push]; omega)) [a29, r29_0, r29_1, r29_2, evP_call, held_eq (F := F) (by omega) s, deferK_v, deferV_fn, eqT, eqF, neT, neF, ltT, ltF, leT, leF, nltT, nltF, nleT, nleF, nneT, nneF, List.getElem?_cons_zero, List.getElem?_cons_succ]
  have sl1 := SlPrt.imp sl (ok' := ok2) (fun _ _ q => q) (keep_of k1.c (by simpa using hb2))
  have y1 : (h.setIfInBounds b (.cells (qcells 1 r first q) 0 true [])).size = h.size := by simp
  generalize h.setIfInBounds b (.cells (qcells 1 r first q) 0 true []) = h1 at s1 k1 sl1 y1 ⊢
  have hl := sl1.len
  have fin : ∀ (c : Int) (q' : Qm) (f' : Nat) (h2 : H), collM q stamp l = (c, q') → QAt ok h2 b 1 r f' q' → Kept h1 h2 (b :: r.toList) →
      Ans (some (Value.int .i64 c, h2.setIfInBounds b (.cells (qcells 0 r f' q') 0 true []))) (CollPost ok h b r (collM q stamp l).1 (collM q stamp l).2) := by
    intro c q' f' h2 e s2 k2
    obtain ⟨s3, k3⟩ := s2.lock 0
    rw [e]
    refine Ans.of ⟨f', rfl, s3, ?_⟩
    exact (k1.weak (by simp)).trans (k2.trans (k3.weak (by simp)))
  simp (disch := first | omega | (simp only [newRow_size, Array.size_setIfInBounds, Array.size_push]; done) | (simp only [newRow_size, Array.size_setIfInBounds, Array.size_push]; omega)) [r29_3, fits_eq (F := F) (by omega) s1, eqT, eqF, neT, neF, ltT, ltF, leT, leF, nltT, nltF, nleT, nleF, nneT, nneF, List.getElem?_cons_zero, List.getElem?_cons_succ]
  by_cases hf : fitsM q.last stamp = 0
  · by_cases hz : l.length = 0
    · have hl0 : l = [] := List.length_eq_zero_iff.1 hz
      have hm : collM q stamp l = (100, q) := by unfold collM; rw [if_neg (by simp [hf]), if_pos hl0]
      simp (disch := first | omega | (simp only [newRow_size, Array.size_setIfInBounds, Array.size_push]; done) | (simp only [newRow_size, Array.size_setIfInBounds, Array.size_push]; omega)) [r29_4, hf, hl, r29_5, r29_6, r29_7, eqT, eqF, neT, neF, ltT, ltF, leT, leF, nltT, nltF, nleT, nleF, nneT, nneF, List.getElem?_cons_zero, List.getElem?_cons_succ, unl s1]
      exact fin _ _ _ _ hm s1 (Kept.refl _ _)
    · have hl0 : ¬ l = [] := fun e => hz (by rw [e]; rfl)
      have hbE := s1.at'
      simp only [qcells] at hbE
      have hlr : lenV (rsl r q.room) = some (.int .i64 q.room) := by
        cases r with
        | none => simp [(s1.no rfl).1]
        | some r => simp
      simp (disch := first | omega | (simp only [newRow_size, Array.size_setIfInBounds, Array.size_push]; done) | (simp only [newRow_size, Array.size_setIfInBounds, Array.size_push]; omega)) [r29_4, r29_6, hf, hl, hbE, hlr, r29_8, eqT, eqF, neT, neF, ltT, ltF, leT, leF, nltT, nltF, nleT, nleF, nneT, nneF, List.getElem?_cons_zero, List.getElem?_cons_succ]
      by_cases hroom : q.room = 0
      · have hm : collM q stamp l = (46, q) := by unfold collM; rw [if_neg (by simp [hf]), if_neg hl0, if_pos hroom]
        simp (disch := first | omega | (simp only [newRow_size, Array.size_setIfInBounds, Array.size_push]; done) | (simp only [newRow_size, Array.size_setIfInBounds, Array.size_push]; omega)) [hroom, r29_9, eqT, eqF, neT, neF, ltT, ltF, leT, leF, nltT, nltF, nleT, nleF, nneT, nneF, List.getElem?_cons_zero, List.getElem?_cons_succ, unl s1]
        exact fin _ _ _ _ hm s1 (Kept.refl _ _)
      · have hm : collM q stamp l = (0, ⟨q.room, [⟨stamp, afterM q, true, [], l⟩], stamp⟩) := by unfold collM; rw [if_neg (by simp [hf]), if_neg hl0, if_neg hroom]
        obtain ⟨r, rfl⟩ : ∃ c, r = some c := by
          cases r with
          | none => exact absurd (s1.no rfl).1 hroom
          | some r => exact ⟨r, rfl⟩
        have hbs := lt_of_get hbE
        obtain ⟨z1, z2, z3, z4, cs, z5, z6⟩ := s1.yes r rfl
        have hrs := lt_of_get z5
        have hbr : ¬ b = r := fun e => z3 e.symm
        have hcl := z6.1
        have tail : Ans
            (evR (cf F) r29_14 [(0, .pointer (some ⟨b, 0, none⟩)), (1, .int .i64 stamp), (2, v), (8, .int .i64 (afterM q))]
              (h1.setIfInBounds r (.cells ((List.replicate q.room [Value.int .i64 0, .int .i64 0, .bool false, .slice none 0 0, .slice none 0 0]).flatten ++ List.drop (q.room * 5) cs) 5 true []))
              (evC F (cf F) ((ACode.region r29_15 []).seq ((ACode.region r29_16 [6]).seq ACode.ret)) (endK (cfX XD) [ARes.tmp 6]) noK (endK (cfX XD) [ARes.tmp 6]))
              [0, 1, 2, 8] [⟨60, [.pointer (some ⟨b, 0, none⟩)]⟩])
            (CollPost ok h b (some r) (collM q stamp l).1 (collM q stamp l).2) := by
          have hzl : ((List.replicate q.room [Value.int .i64 0, .int .i64 0, .bool false, .slice none 0 0, .slice none 0 0]).flatten ++ List.drop (q.room * 5) cs).length = q.room * 5 := by simp [hcl]
          generalize (List.replicate q.room [Value.int .i64 0, .int .i64 0, .bool false, .slice none 0 0, .slice none 0 0]).flatten ++ List.drop (q.room * 5) cs = zs at hzl
          have k2 : Kept h1 (h1.setIfInBounds r (.cells zs 5 true [])) [r] := ⟨by simp, fun c hc hn => by
            rw [List.mem_singleton] at hn
            have n1 : ¬ r = c := fun e => hn e.symm
            simp [n1]⟩
          have hbE2 := (k2.get hbs (by simpa using hbr)).trans hbE
          have hrE2 : hget (h1.setIfInBounds r (.cells zs 5 true [])) r = some (.cells zs 5 true []) := by simp [hrs]
          have y2 : (h1.setIfInBounds r (.cells zs 5 true [])).size = h1.size := by simp
          generalize h1.setIfInBounds r (.cells zs 5 true []) = h2 at k2 hbE2 hrE2 y2 ⊢
          have hbs2 := lt_of_get hbE2
          have hrs2 := lt_of_get hrE2
          simp (disch := first | omega | (simp only [newRow_size, Array.size_setIfInBounds, Array.size_push]; done) | (simp only [newRow_size, Array.size_setIfInBounds, Array.size_push]; omega)) [r29_14, hbE2, eqT, eqF, neT, neF, ltT, ltF, leT, leF, nltT, nltF, nleT, nleF, nneT, nneF, List.getElem?_cons_zero, List.getElem?_cons_succ]
          have k3 : Kept h2 (h2.setIfInBounds b (.cells (qcells 1 (some r) 0 ⟨q.room, [], q.last⟩) 0 true [])) [b] := ⟨by simp, fun c hc hn => by
            rw [List.mem_singleton] at hn
            have n1 : ¬ b = c := fun e => hn e.symm
            simp [n1]⟩
          have s3 : QAt ok (h2.setIfInBounds b (.cells (qcells 1 (some r) 0 ⟨q.room, [], q.last⟩) 0 true [])) b 1 (some r) 0 ⟨q.room, [], q.last⟩ := by
            refine ⟨by simp [hbs2], by simp, ?_, s1.okb⟩
            intro c e
            cases e
            exact ⟨z1, z1, z3, z4, zs, (k3.get hrs2 (by simpa using z3)).trans hrE2, hzl, by simp⟩
          simp only [qcells, List.length_nil, Int.natCast_zero, rsl_some] at k3 s3
          have y3 := k3.1
          have sl3 := SlPrt.imp sl1 (ok' := ok2) (fun _ _ q => q) (keep_of (k2.c.weak (M := [b, r]) (by simp) |>.trans (k3.c.weak (by simp))) (by
            intro c hc
            simp only [List.mem_cons, List.not_mem_nil, or_false] at hc
            rcases hc with rfl | rfl
            · exact hb2
            · exact hr2 _ rfl))
          generalize h2.setIfInBounds b (.cells [.int .i32 1, .int .u32 0, .slice (some ⟨r, 0, none⟩) q.room q.room, .int .i64 0, .int .i64 0, .int .i64 q.last] 0 true []) = h3 at k3 s3 y3 sl3 ⊢
          simp (disch := first | omega | (simp only [newRow_size, Array.size_setIfInBounds, Array.size_push]; done) | (simp only [newRow_size, Array.size_setIfInBounds, Array.size_push]; omega)) [r29_15, eqT, eqF, neT, neF, ltT, ltF, leT, leF, nltT, nltF, nleT, nleF, nneT, nneF, List.getElem?_cons_zero, List.getElem?_cons_succ]
          refine Ans.next (copiedParts_spec (F := F) (by omega) sl3 hs) ?_
          rintro v4 h4 ⟨b4, k4⟩
          have y4 := k4.1
          have s4 := s3.frame k4
          have hb4 := s4.at'
          simp only [qcells] at hb4
          have hvc := b4.sl.vc
          have hvo := b4.sl.one
          simp only [vcells] at hvc
          simp (disch := first | omega | (simp only [newRow_size, Array.size_setIfInBounds, Array.size_push]; done) | (simp only [newRow_size, Array.size_setIfInBounds, Array.size_push]; omega)) [hvc, eqT, eqF, neT, neF, ltT, ltF, leT, leF, nltT, nltF, nleT, nleF, nneT, nneF, List.getElem?_cons_zero, List.getElem?_cons_succ]
          have hx : ItmC ok h4 [.int .i64 stamp, .int .i64 (afterM q), .bool true, .slice none 0 0, v4] ⟨stamp, afterM q, true, [], l⟩ := by
            refine ⟨.slice none 0 0, v4, rfl, .inl ⟨.inl rfl, rfl⟩, ?_⟩
            refine SlPrt.imp b4.sl (fun c _ hc => ?_) (fun c cs _ e => e)
            have : h3.size ≤ c := hc
            exact hok c (by omega)
          have g4 : (⟨q.room, [], q.last⟩ : Qm).Good := ⟨g.room, by simp, g.lo, g.hi, by simp, by simp⟩
          refine Ans.next (put_spec (F := F) (x := ⟨stamp, afterM q, true, [], l⟩) (v := .slice none 0 0) (w := v4) (by omega) s4 g4 (by simpa using z1) hx rfl hvo) ?_
          rintro u h5 ⟨rfl, s5, k5⟩
          simp (disch := first | omega | (simp only [newRow_size, Array.size_setIfInBounds, Array.size_push]; done) | (simp only [newRow_size, Array.size_setIfInBounds, Array.size_push]; omega)) [r29_16, unl s5, eqT, eqF, neT, neF, ltT, ltF, leT, leF, nltT, nltF, nleT, nleF, nneT, nneF, List.getElem?_cons_zero, List.getElem?_cons_succ]
          refine fin _ _ _ _ hm s5 ?_
          exact (k2.weak (by simp)).trans ((k3.weak (by simp)).trans (k4.of_nil.trans (k5.weak (by simp))))
        have hit : q.items.length = 0 ∧ afterM q = q.last ∨ 0 < q.items.length ∧ cf F 43 [.pointer (some ⟨b, 0, none⟩), .int .i64 0] h1 = some (.pointer (some ⟨r, (first + 0) % q.room * 5, none⟩), h1) ∧ (cs.drop ((first + 0) % q.room * 5 + 1)).take 1 = [.int .i64 (afterM q)] ∧ (first + 0) % q.room * 5 + 5 ≤ cs.length := by
          cases hq : q.items with
          | nil => exact .inl ⟨rfl, by simp [afterM, hq]⟩
          | cons x rest =>
            have hp : (first + 0) % q.room < q.room := Nat.mod_lt _ z1
            obtain ⟨_, _, _, _, e3, _⟩ := id_at (z6.2 0 x (by rw [hq]; rfl)) (by omega)
            exact .inr ⟨by simp, by simpa using at_eq (F := F) (by omega) s1 g 0 (by omega), by rw [e3]; simp [afterM, hq], by omega⟩
        rcases hit with ⟨hn, ha⟩ | ⟨hn, hat, ha, hp⟩
        · simp (disch := first | omega | (simp only [newRow_size, Array.size_setIfInBounds, Array.size_push]; done) | (simp only [newRow_size, Array.size_setIfInBounds, Array.size_push]; omega)) [hroom, r29_10, hbE, r29_11, hn, eqT, eqF, neT, neF, ltT, ltF, leT, leF, nltT, nltF, nleT, nleF, nneT, nneF, List.getElem?_cons_zero, List.getElem?_cons_succ, r29_13, z5, hcl]
          rw [← ha]
          exact tail
        · generalize (first + 0) % q.room = p at hat ha hp
          simp (disch := first | omega | (simp only [newRow_size, Array.size_setIfInBounds, Array.size_push]; done) | (simp only [newRow_size, Array.size_setIfInBounds, Array.size_push]; omega)) [hroom, r29_10, hbE, r29_11, hn, hat, z5, ha, hp, r29_12, eqT, eqF, neT, neF, ltT, ltF, leT, leF, nltT, nltF, nleT, nleF, nneT, nneF, List.getElem?_cons_zero, List.getElem?_cons_succ, r29_13, hcl]
          exact tail
  · have hm : collM q stamp l = (fitsM q.last stamp, q) := by unfold collM; rw [if_pos hf]
    simp (disch := first | omega | (simp only [newRow_size, Array.size_setIfInBounds, Array.size_push]; done) | (simp only [newRow_size, Array.size_setIfInBounds, Array.size_push]; omega)) [r29_4, hf, r29_6, r29_7, eqT, eqF, neT, neF, ltT, ltF, leT, leF, nltT, nltF, nleT, nleF, nneT, nneF, List.getElem?_cons_zero, List.getElem?_cons_succ, unl s1]
    exact fin _ _ _ _ hm s1 (Kept.refl _ _)

end Go.Proofs.Ytkkagpchcefidaa

/- The program's queue: Took. -/
set_option linter.unusedSimpArgs false
set_option linter.unusedVariables false
namespace Go.Proofs.Ytkkagpchcefidaa
open Go.Ev

theorem Ring.shift {ok : Nat → Prop} {h : H} {room first : Nat} {items : List Itm} {cs new : List Value} {x : Itm} (s : Ring ok h room first (x :: items) cs) (hle : items.length + 1 ≤ room) (hn : new.length = 5) :
    Ring ok h room ((first + 1) % room) items (cs.take ((first + 0) % room * 5) ++ new ++ cs.drop ((first + 0) % room * 5 + 5)) := by
  have hp : (first + 0) % room < room := Nat.mod_lt _ (by omega)
  refine ⟨?_, ?_⟩
  · have := s.1
    simp [hn]; simp at hp; omega
  · intro k y hy
    have hk := (List.getElem?_eq_some_iff.1 hy).1
    have hq : (first + (k + 1)) % room < room := Nat.mod_lt _ (by omega)
    have e1 : ((first + 1) % room + k) % room = (first + (k + 1)) % room := by
      rw [Nat.mod_add_mod]; congr 1; omega
    rw [e1, splice_drop cs new s.1 hp hq hn, if_neg (fun e => mod_ne (room := room) (first := first) (k := 0) (n := k + 1) (by omega) (by omega) e.symm)]
    exact s.2 (k + 1) y (by simpa using hy)

theorem tw_of {α : Type} (p : α → Bool) : ∀ (l : List α) (i : Nat), i ≤ l.length → (∀ x ∈ l.take i, p x = true) → (∀ x, l[i]? = some x → p x = false) → (l.takeWhile p).length = i ∧ l.dropWhile p = l.drop i
  | [], i, h, _, _ => by simp at h; subst h; simp
  | x :: l, 0, _, _, h => by
    have := h x rfl
    simp [this]
  | x :: l, i + 1, h, h1, h2 => by
    have hx := h1 x (by simp)
    obtain ⟨a, b⟩ := tw_of p l i (by simpa using h) (fun y hy => h1 y (by simp [hy])) (fun y hy => h2 y (by simpa using hy))
    simp [hx, a, b]

def TookPost (ok : Nat → Prop) (h : H) (b : Nat) (r : Option Nat) (c : Nat) (q' : Qm) (u : Value) (h' : H) : Prop :=
  u = .int .i64 c ∧ ∃ first', QAt ok h' b 0 r first' q' ∧ Kept h h' (b :: r.toList)

theorem Took_spec {F : Nat} (hF : 100 ≤ F) {ok : Nat → Prop} {h : H} {b : Nat} {r : Option Nat} {first : Nat} {q : Qm} (s : QAt ok h b 0 r first q) (g : q.Good) (stamp : Int) :
    Ans (cf F 30 [.pointer (some ⟨b, 0, none⟩), .int .i64 stamp] h) (TookPost ok h b r (tookM q stamp).1 (tookM q stamp).2) := by
  generalize hQ : TookPost ok h b r (tookM q stamp).1 (tookM q stamp).2 = Q
  obtain ⟨F, rfl⟩ : ∃ G, F = G + 1 := ⟨F - 1, by omega⟩
  rw [cf_step (a := a30) rfl rfl (by simp [a30])]
  obtain ⟨s1, k1⟩ := s.lock 1
  simp (disch := first | omega | (simp only [newRow_size, Array.size_setIfInBounds, Array.size_push]; done) | (simp only [newRow_size, Array.size_setIfInBounds, Array.size_push]; omega)) [a30, r30_0, r30_1, r30_2, r30_3, r30_4, evP_call, held_eq (F := F) (by omega) s, deferK_v, deferV_fn, eqT, eqF, neT, neF, ltT, ltF, leT, leF, nltT, nltF, nleT, nleF, nneT, nneF, List.getElem?_cons_zero, List.getElem?_cons_succ]
  generalize h.setIfInBounds b (.cells (qcells 1 r first q) 0 true []) = h1 at s1 k1 ⊢
  have hgl := g.len
  have hgr := g.room
  refine loop_rule (fun m e k => ∃ (i f' : Nat), m = q.items.length - i ∧ i ≤ q.items.length ∧ e = [(0, .pointer (some ⟨b, 0, none⟩)), (1, .int .i64 stamp), (5, .int .i64 i)] ∧ QAt ok k b 1 r f' ⟨q.room, q.items.drop i, q.last⟩ ∧ Kept h1 k (b :: r.toList) ∧ (∀ x ∈ q.items.take i, decide (x.stamp ≤ stamp) = true)) ?_ _ q.items.length _ _ (by omega) ⟨0, first, by omega, by omega, rfl, s1, Kept.refl _ _, by simp⟩
  rintro m e k again ⟨i, f', rfl, hi, rfl, sk, kk, hw⟩ ih
  have gk : (⟨q.room, q.items.drop i, q.last⟩ : Qm).Good := ⟨g.room, by simp; omega, g.lo, g.hi, g.rise.sublist (List.drop_sublist _ _), fun x hx => g.bnd x (List.mem_of_mem_drop hx)⟩
  have hbE := sk.at'
  simp only [qcells] at hbE
  have fin : ∀ x, q.items[i]? = x → (∀ y, x = some y → ¬ y.stamp ≤ stamp) → Ans (some (Value.int .i64 i, k.setIfInBounds b (.cells (qcells 0 r f' ⟨q.room, q.items.drop i, q.last⟩) 0 true []))) Q := by
    rintro x rfl hx
    obtain ⟨s3, k3⟩ := sk.lock 0
    obtain ⟨e1, e2⟩ := tw_of (fun x : Itm => decide (x.stamp ≤ stamp)) q.items i hi hw (fun y hy => by simpa using hx y hy)
    subst hQ
    refine Ans.of ⟨by simp [tookM, e1], f', ?_, ?_⟩
    · simp only [tookM, e2]; exact s3
    · exact (k1.weak (by simp)).trans (kk.trans (k3.weak (by simp)))
  by_cases hlt : i < q.items.length
  · obtain ⟨x, hx⟩ : ∃ x, q.items[i]? = some x := ⟨_, List.getElem?_eq_getElem hlt⟩
    have hdr : q.items.drop i = x :: q.items.drop (i + 1) := by
      rw [List.drop_eq_getElem_cons hlt]
      rw [List.getElem?_eq_getElem hlt] at hx
      injection hx with hx
      rw [hx]
    have hlen1 : ((q.items.drop i).length : Int) = (q.items.length : Int) - i := by rw [List.length_drop]; omega
    obtain ⟨r, rfl⟩ : ∃ c, r = some c := by
      cases r with
      | none => have := (sk.no rfl).1; simp at this; omega
      | some r => exact ⟨r, rfl⟩
    obtain ⟨z1, z2, z3, z4, cs, z5, z6⟩ := sk.yes r rfl
    simp only at z1 z2 z6
    have hat : cf F 43 [.pointer (some ⟨b, 0, none⟩), .int .i64 0] k = some (.pointer (some ⟨r, (f' + 0) % q.room * 5, none⟩), k) := by simpa using at_eq (F := F) (by omega) sk gk 0 (by omega)
    rw [hdr] at z6
    have hp : (f' + 0) % q.room < q.room := Nat.mod_lt _ z1
    have hcl := z6.1
    obtain ⟨_, _, _, e3, _⟩ := id_at (z6.2 0 x rfl) (by omega)
    have hsh := fun new hn => z6.shift (new := new) (by rw [List.length_drop]; omega) hn
    have hw1 : IntKind.i64.wrap ((i : Int) + 1) = ((i + 1 : Nat) : Int) := by rw [wrap_id (by omega) (by omega)]; rfl
    have hw2 : IntKind.i64.wrap ((f' : Int) + 1) = (f' : Int) + 1 := wrap_id (by omega) (by omega)
    have hm : ((f' : Int) + 1).tmod (q.room : Int) = (((f' + 1) % q.room : Nat) : Int) := by
      rw [Int.tmod_eq_emod_of_nonneg (by omega)]; rfl
    have hw3 : IntKind.i64.wrap ((q.items.length : Int) - i - 1) = ((q.items.drop (i + 1)).length : Int) := by rw [wrap_id (by omega) (by omega), List.length_drop]; omega
    generalize (f' + 0) % q.room = p at hat hp e3 hsh
    rw [hlen1] at hbE
    by_cases hst : x.stamp ≤ stamp
    · have hbs := lt_of_get hbE
      have hrs := lt_of_get z5
      have hsh0 := hsh [.int .i64 0, .int .i64 0, .bool false, .slice none 0 0, .slice none 0 0] rfl
      simp only [List.append_assoc, List.cons_append, List.nil_append] at hsh0
      simp (disch := first | omega | (simp only [newRow_size, Array.size_setIfInBounds, Array.size_push]; done) | (simp only [newRow_size, Array.size_setIfInBounds, Array.size_push]; omega)) [l30_10, r30_5, hbE, hat, z5, e3, eqT, eqF, neT, neF, ltT, ltF, leT, leF, nltT, nltF, nleT, nleF, nneT, nneF, List.getElem?_cons_zero, List.getElem?_cons_succ, r30_6, hcl]
      generalize cs.take (p * 5) ++ Value.int .i64 0 :: .int .i64 0 :: .bool false :: .slice none 0 0 :: .slice none 0 0 :: cs.drop (p * 5 + 5) = cs2 at hsh0 ⊢
      have k2 : Kept k (k.setIfInBounds r (.cells cs2 5 true [])) [r] := ⟨by simp, fun c hc hn => by
        rw [List.mem_singleton] at hn
        have n1 : ¬ r = c := fun e => hn e.symm
        simp [n1]⟩
      have hbr : ¬ b = r := fun e => z3 e.symm
      have hbE2 := (k2.get hbs (by simpa using hbr)).trans hbE
      have hrE2 : hget (k.setIfInBounds r (.cells cs2 5 true [])) r = some (.cells cs2 5 true []) := by simp [hrs]
      generalize k.setIfInBounds r (.cells cs2 5 true []) = h2 at k2 hbE2 hrE2 ⊢
      have hbs2 := lt_of_get hbE2
      have hrs2 := lt_of_get hrE2
      have hrz : ¬ q.room = 0 := by omega
      have hff : (f' + 1) % q.room < q.room := Nat.mod_lt _ z1
      generalize (f' + 1) % q.room = f2 at hm hsh0 hff
      simp (disch := first | omega | (simp only [newRow_size, Array.size_setIfInBounds, Array.size_push]; done) | (simp only [newRow_size, Array.size_setIfInBounds, Array.size_push]; omega)) [d30_7, hbE2, hw2, hm, hrz, eqT, eqF, neT, neF, ltT, ltF, leT, leF, nltT, nltF, nleT, nleF, nneT, nneF, List.getElem?_cons_zero, List.getElem?_cons_succ, r30_8, r30_9, hw3, hw1]
      have k3 : Kept h2 (h2.setIfInBounds b (.cells (qcells 1 (some r) f2 ⟨q.room, q.items.drop (i + 1), q.last⟩) 0 true [])) [b] := ⟨by simp, fun c hc hn => by
        rw [List.mem_singleton] at hn
        have n1 : ¬ b = c := fun e => hn e.symm
        simp [n1]⟩
      have s3 : QAt ok (h2.setIfInBounds b (.cells (qcells 1 (some r) f2 ⟨q.room, q.items.drop (i + 1), q.last⟩) 0 true [])) b 1 (some r) f2 ⟨q.room, q.items.drop (i + 1), q.last⟩ := by
        refine ⟨by simp [hbs2], by simp, ?_, sk.okb⟩
        intro c e
        cases e
        refine ⟨z1, hff, z3, z4, cs2, (k3.get hrs2 (by simpa using z3)).trans hrE2, ?_⟩
        exact (hsh0.kc k2.c (by simpa using z4)).kc k3.c (by simpa using sk.okb)
      simp only [qcells, List.length_drop, rsl_some] at k3 s3
      refine ih (q.items.length - (i + 1)) _ _ (by omega) ⟨i + 1, f2, rfl, by omega, rfl, s3, ?_, ?_⟩
      · exact kk.trans ((k2.weak (by simp)).trans (k3.weak (by simp)))
      · rw [take_snoc hx]
        intro y hy
        rcases List.mem_append.1 hy with hy | hy
        · exact hw y hy
        · simp at hy; subst hy; simpa using hst
    · simp (disch := first | omega | (simp only [newRow_size, Array.size_setIfInBounds, Array.size_push]; done) | (simp only [newRow_size, Array.size_setIfInBounds, Array.size_push]; omega)) [l30_10, r30_5, hbE, hat, z5, e3, hst, eqT, eqF, neT, neF, ltT, ltF, leT, leF, nltT, nltF, nleT, nleF, nneT, nneF, List.getElem?_cons_zero, List.getElem?_cons_succ, r30_11, unl sk]
      exact fin _ hx (fun y hy => by cases hy; exact hst)
  · have hii : i = q.items.length := by omega
    have hl0 : (q.items.drop i).length = 0 := by rw [List.length_drop]; omega
    rw [hl0] at hbE
    simp (disch := first | omega | (simp only [newRow_size, Array.size_setIfInBounds, Array.size_push]; done) | (simp only [newRow_size, Array.size_setIfInBounds, Array.size_push]; omega)) [l30_10, r30_5, hbE, eqT, eqF, neT, neF, ltT, ltF, leT, leF, nltT, nltF, nleT, nleF, nneT, nneF, List.getElem?_cons_zero, List.getElem?_cons_succ, r30_11, unl sk]
    exact fin _ rfl (fun y hy => by rw [List.getElem?_eq_none (by omega)] at hy; cases hy)

end Go.Proofs.Ytkkagpchcefidaa

/- The program's queue: Next. -/
set_option linter.unusedSimpArgs false
set_option linter.unusedVariables false
namespace Go.Proofs.Ytkkagpchcefidaa
open Go.Ev

theorem SlR.sameV {α : Type} {ok : Nat → Prop} {w : Nat} {R : H → List Value → α → Prop} {h : H} {v : Value} {xs : List α} (s : SlR ok w R h v xs) : Ev.sameV v v = true := by
  rcases s with ⟨rfl | rfl, rfl⟩ | ⟨b, o, c, cs, rfl, _⟩ <;> simp [Ev.sameV, sameCell]

def NextPost (ok : Nat → Prop) (h : H) (b : Nat) (r : Option Nat) (first : Nat) (q : Qm) (most : Int) (u : Value) (h' : H) : Prop :=
  Bld (since h.size) 5 (ItmC (since h.size)) h' u (nextM q most) ∧ QAt ok h' b 0 r first q ∧ Kept h h' [b]

set_option maxHeartbeats 1000000 in
theorem Next_spec {F : Nat} (hF : 17592186044430 ≤ F) {ok : Nat → Prop} {h : H} {b : Nat} {r : Option Nat} {first : Nat} {q : Qm} (s : QAt ok h b 0 r first q) (g : q.Good) (hs : ShortI q.items) (most : Int) :
    Ans (cf F 20 [.pointer (some ⟨b, 0, none⟩), .int .i64 most] h) (NextPost ok h b r first q most) := by
  generalize hQ : NextPost ok h b r first q most = Q
  obtain ⟨F, rfl⟩ : ∃ G, F = G + 1 := ⟨F - 1, by omega⟩
  rw [cf_step (a := a20) rfl rfl (by simp [a20])]
  obtain ⟨s1, k1⟩ := s.lock 1
  simp (disch := first | omega | (simp only [newRow_size, Array.size_setIfInBounds, Array.size_push]; done) | (simp only [newRow_size, Array.size_setIfInBounds, Array.size_push]; omega)) [a20, r20_0, r20_1, r20_2, r20_3, r20_4, r20_5, evP_call, held_eq (F := F) (by omega) s, deferK_v, deferV_fn, eqT, eqF, neT, neF, ltT, ltF, leT, leF, nltT, nltF, nleT, nleF, nneT, nneF, List.getElem?_cons_zero, List.getElem?_cons_succ]
  have y1 : (h.setIfInBounds b (.cells (qcells 1 r first q) 0 true [])).size = h.size := by simp
  have hbs := lt_of_get s.at'
  generalize h.setIfInBounds b (.cells (qcells 1 r first q) 0 true []) = h1 at s1 k1 y1 ⊢
  have hgl := g.len
  have hgr := g.room
  obtain ⟨mm, hmm⟩ : ∃ mm : Int, (if (q.items.length : Int) < most then (q.items.length : Int) else most) = mm := ⟨_, rfl⟩
  have hN : (nextM q most).length = min most.toNat q.items.length := by simp [nextM]
  refine loop_rule (fun m e k => ∃ (i : Nat) (u : Value), m = q.items.length - i ∧ i ≤ (nextM q most).length ∧ e = [(0, .pointer (some ⟨b, 0, none⟩)), (1, .int .i64 most), (5, u), (6, .int .i64 i)] ∧ Kept h1 k [] ∧ Bld (since h.size) 5 (ItmC (since h.size)) k u (q.items.take i)) ?_ _ q.items.length _ _ (by omega) ⟨0, _, by omega, by omega, rfl, Kept.refl _ _, Bld.nil _ _ _ _⟩
  rintro m e k again ⟨i, u, rfl, hi, rfl, kk, bu⟩ ih
  have sk := s1.frame kk
  have yk := kk.1
  have hbE := sk.at'
  simp only [qcells] at hbE
  by_cases hlt : i < (nextM q most).length
  · obtain ⟨x, hx⟩ : ∃ x, q.items[i]? = some x := ⟨_, List.getElem?_eq_getElem (by omega)⟩
    obtain ⟨r, rfl⟩ : ∃ c, r = some c := by
      cases r with
      | none => have := (sk.no rfl).1; omega
      | some r => exact ⟨r, rfl⟩
    obtain ⟨z1, z2, z3, z4, cs, z5, z6⟩ := sk.yes r rfl
    have hat := at_eq (F := F) (by omega) sk g i (by omega)
    have hp : (first + i) % q.room < q.room := Nat.mod_lt _ z1
    have hcl := z6.1
    obtain ⟨vt, vp, e3, st, sp⟩ := z6.2 i x hx
    have hw1 : IntKind.i64.wrap ((i : Int) + 1) = ((i + 1 : Nat) : Int) := by rw [wrap_id (by omega) (by omega)]; rfl
    generalize (first + i) % q.room = p at hat hp e3
    have hto := st.one
    have hpo := sp.one
    simp only [oneCell] at hto hpo
    have hks := lt_of_get hbE
    have hlm : (i : Int) < mm := by rw [← hmm]; split <;> omega
    simp (disch := first | omega | (simp only [newRow_size, Array.size_setIfInBounds, Array.size_push]; done) | (simp only [newRow_size, Array.size_setIfInBounds, Array.size_push]; omega)) [l20_11, r20_6, hbE, hat, z5, e3, hmm, eqT, eqF, neT, neF, ltT, ltF, leT, leF, nltT, nltF, nleT, nleF, nneT, nneF, List.getElem?_cons_zero, List.getElem?_cons_succ, r20_7, hto, hpo, d20_8]
    have sl1 := SlTgd.imp st (ok' := ok) (fun _ _ q => q) (keep_of (rowKept k [.int .i64 x.stamp, .int .i64 x.after, .bool x.marker, vt, vp] 0 []).c (by simp))
    have sl2 := SlPrt.imp sp (ok' := ok) (fun _ _ q => q) (keep_of (rowKept k [.int .i64 x.stamp, .int .i64 x.after, .bool x.marker, vt, vp] 0 []).c (by simp))
    obtain ⟨sh1, sh2⟩ := hs.2 x (List.mem_of_getElem? hx)
    refine Ans.nextD (copiedChanges_spec (F := F) (by omega) sl1 sh1) ?_
    rintro v2 h2 ⟨b2, k2⟩
    have y2 := k2.1
    have g2 := fun c => k2.get (b := c)
    simp only [List.not_mem_nil, not_false_eq_true, forall_const, newRow_size] at g2 y2
    simp (disch := first | omega | (simp only [newRow_size, Array.size_setIfInBounds, Array.size_push]; done) | (simp only [newRow_size, Array.size_setIfInBounds, Array.size_push]; omega)) [g2, eqT, eqF, neT, neF, ltT, ltF, leT, leF, nltT, nltF, nleT, nleF, nneT, nneF, List.getElem?_cons_zero, List.getElem?_cons_succ]
    have sl3 := SlPrt.imp sl2 (ok' := ok) (fun _ _ q => q) (keep_of k2.c (by simp))
    refine Ans.nextD (copiedParts_spec (F := F) (by omega) sl3 sh2) ?_
    rintro v3 h3 ⟨b3, k3⟩
    have y3 := k3.1
    have g3 := fun c => k3.get (b := c)
    simp only [List.not_mem_nil, not_false_eq_true, forall_const] at g3
    have hto2 := b2.sl.one
    have hvc2 := b2.sl.vc
    have hto3 := b3.sl.one
    have hvc3 := b3.sl.vc
    have hsv := SlR.sameV sp
    simp only [oneCell] at hto2 hto3
    simp only [vcells] at hvc2 hvc3
    simp (disch := first | omega | (simp only [newRow_size, Array.size_setIfInBounds, Array.size_push]; done) | (simp only [newRow_size, Array.size_setIfInBounds, Array.size_push]; omega)) [g2, g3, hto2, hvc2, hto3, hvc3, eqT, eqF, neT, neF, ltT, ltF, leT, leF, nltT, nltF, nleT, nleF, nneT, nneF, List.getElem?_cons_zero, List.getElem?_cons_succ, dk_go, chks_nil, chks_cons, chkA_nil, chkA_cons, chk1_no, chk1_yes, chkV_some, hAt_eq, hOf_some, hOf_none, hsv, r20_9, srcOf]
    have kE : Kept k (Ev.newRow (Array.setIfInBounds h3 k.size (.cells [.int .i64 x.stamp, .int .i64 x.after, .bool x.marker, v2, v3] 0 true [])) [.int .i64 x.stamp, .int .i64 x.after, .bool x.marker, v2, v3] 5 []) [] := ⟨(by first | omega | (simp only [newRow_size, Array.size_setIfInBounds, Array.size_push]; done) | (simp only [newRow_size, Array.size_setIfInBounds, Array.size_push]; omega)), fun c hc _ => by
      simp (disch := first | omega | (simp only [newRow_size, Array.size_setIfInBounds, Array.size_push]; done) | (simp only [newRow_size, Array.size_setIfInBounds, Array.size_push]; omega)) [g2, g3]⟩
    have bE : Bld (since h.size) 5 (ItmC (since h.size)) (Ev.newRow (Array.setIfInBounds h3 k.size (.cells [.int .i64 x.stamp, .int .i64 x.after, .bool x.marker, v2, v3] 0 true [])) [.int .i64 x.stamp, .int .i64 x.after, .bool x.marker, v2, v3] 5 []) u (q.items.take i) :=
      bu.kept kE (by simp) (fun cs t _ q => ItmC.imp q (fun _ _ q => q) (keep_of kE.c (by simp)))
    have sE2 : SlR (since h.size) 5 (TgdC (since h.size)) (Ev.newRow (Array.setIfInBounds h3 k.size (.cells [.int .i64 x.stamp, .int .i64 x.after, .bool x.marker, v2, v3] 0 true [])) [.int .i64 x.stamp, .int .i64 x.after, .bool x.marker, v2, v3] 5 []) v2 x.chgs := by
      refine SlTgd.imp b2.sl (fun c _ hc => ?_) (fun c cs hc e => ?_)
      · have hc' : k.size + 1 ≤ c := by simpa using hc
        show h.size ≤ c
        omega
      · have hc' : k.size + 1 ≤ c := by simpa using hc
        have := cel_lt e
        rw [← e]
        exact cel_congr (by simp (disch := first | omega | (simp only [newRow_size, Array.size_setIfInBounds, Array.size_push]; done) | (simp only [newRow_size, Array.size_setIfInBounds, Array.size_push]; omega)) [g3])
    have sE3 : SlR (since h.size) 5 (PrtC (since h.size)) (Ev.newRow (Array.setIfInBounds h3 k.size (.cells [.int .i64 x.stamp, .int .i64 x.after, .bool x.marker, v2, v3] 0 true [])) [.int .i64 x.stamp, .int .i64 x.after, .bool x.marker, v2, v3] 5 []) v3 x.prts := by
      refine SlPrt.imp b3.sl (fun c _ hc => ?_) (fun c cs hc e => ?_)
      · have hc' : h2.size ≤ c := by simpa using hc
        show h.size ≤ c
        omega
      · have hc' : h2.size ≤ c := by simpa using hc
        have := cel_lt e
        rw [← e]
        exact cel_congr (by simp (disch := first | omega | (simp only [newRow_size, Array.size_setIfInBounds, Array.size_push]; done) | (simp only [newRow_size, Array.size_setIfInBounds, Array.size_push]; omega)) [])
    refine Ans.next (bE.app (x := x) (bytes := 72) rfl ?_ ?_ ?_ ?_) ?_
    · rw [List.length_take]; omega
    · show h.size ≤ _; exact (by first | omega | (simp only [newRow_size, Array.size_setIfInBounds, Array.size_push]; done) | (simp only [newRow_size, Array.size_setIfInBounds, Array.size_push]; omega))
    · exact fun h' k cs y _ q => ItmC.imp q (fun _ _ q => q) (keep_of k (by simp))
    · exact fun h' k => ⟨v2, v3, rfl, SlTgd.imp sE2 (fun _ _ q => q) (keep_of k (by simp)), SlPrt.imp sE3 (fun _ _ q => q) (keep_of k (by simp))⟩
    rintro u' h5 ⟨b5, k5, y5, g5, _⟩
    simp (disch := first | omega | (simp only [newRow_size, Array.size_setIfInBounds, Array.size_push]; done) | (simp only [newRow_size, Array.size_setIfInBounds, Array.size_push]; omega)) [r20_10, hw1, eqT, eqF, neT, neF, ltT, ltF, leT, leF, nltT, nltF, nleT, nleF, nneT, nneF, List.getElem?_cons_zero, List.getElem?_cons_succ]
    refine ih (q.items.length - (i + 1)) _ _ (by omega) ⟨i + 1, u', rfl, by omega, rfl, ?_, by rw [take_snoc hx]; exact b5⟩
    refine ⟨by have := kE.1; have := k5.1; omega, fun c hc _ => ?_⟩
    by_cases hch : c < h.size
    · exact (g5 c (by have := kE.1; omega) (bE.ne (by simp; omega))).trans ((kE.get (by omega) (by simp)).trans (kk.get hc (by simp)))
    · omega
  · have hlm : ¬ (i : Int) < mm := by
      rw [← hmm]; split <;> omega
    simp (disch := first | omega | (simp only [newRow_size, Array.size_setIfInBounds, Array.size_push]; done) | (simp only [newRow_size, Array.size_setIfInBounds, Array.size_push]; omega)) [l20_11, r20_6, hbE, hmm, eqT, eqF, neT, neF, ltT, ltF, leT, leF, nltT, nltF, nleT, nleF, nneT, nneF, List.getElem?_cons_zero, List.getElem?_cons_succ, r20_12, unl sk]
    obtain ⟨s3, k3⟩ := sk.lock 0
    have hin : q.items.take i = nextM q most := by
      have : i = (nextM q most).length := by omega
      rw [this, hN, nextM]
      rcases Nat.le_total most.toNat q.items.length with e | e
      · rw [Nat.min_eq_left e]
      · rw [Nat.min_eq_right e, List.take_of_length_le (Nat.le_refl _), List.take_of_length_le e]
    rw [hin] at bu
    subst hQ
    refine Ans.of ⟨?_, s3, (k1.trans (kk.of_nil.trans k3))⟩
    refine bu.kept k3 ?_ (fun cs t _ q => ItmC.imp q (fun _ _ q => q) (keep_of k3.c ?_))
    · simp; omega
    · simp; omega

end Go.Proofs.Ytkkagpchcefidaa

/- The answers that the document fixes: known. -/
set_option linter.unusedSimpArgs false
set_option linter.unusedVariables false
namespace Go.Proofs.Ytkkagpchcefidaa
open Go.Ev

theorem num_eq {F : Nat} (hF : 1 ≤ F) (h : H) (e : Int) : cf F 17 [.int .i64 e] h = some (.int .i64 e, h) := by
  obtain ⟨F, rfl⟩ : ∃ G, F = G + 1 := ⟨F - 1, by omega⟩
  rw [cf_step (a := a17) rfl rfl (by simp [a17])]
  simp (disch := first | omega | (simp only [newRow_size, Array.size_setIfInBounds, Array.size_push]; done) | (simp only [newRow_size, Array.size_setIfInBounds, Array.size_push]; omega)) [a17, r17_0, r17_1]

def tagOf (p : ByteArray) : Tgd := ⟨⟨1, p, ⟨#[]⟩, 0⟩, [1]⟩

theorem tag_spec {F : Nat} (hF : 1 ≤ F) (h : H) (p : ByteArray) : Ans (cf F 34 [.string p] h) fun v h' => SlR (since h.size) 5 (TgdC (since h.size)) h' v [tagOf p] ∧ Kept h h' [] := by
  obtain ⟨F, rfl⟩ : ∃ G, F = G + 1 := ⟨F - 1, by omega⟩
  rw [cf_step (a := a34) rfl rfl (by simp [a34])]
  simp (disch := first | omega | (simp only [newRow_size, Array.size_setIfInBounds, Array.size_push]; done) | (simp only [newRow_size, Array.size_setIfInBounds, Array.size_push]; omega)) [a34, r34_0, r34_1]
  refine Ans.of ⟨.inr ⟨h.size + 1, 0, 1, [.int .i64 1, .string p, .string ⟨#[]⟩, .int .i64 0, .slice (some ⟨h.size, 0, none⟩) 1 1], rfl, by simp, by show h.size ≤ h.size + 1; omega, cel_of (es := 5) (lv := true) (an := []) (by simp (disch := first | omega | (simp only [newRow_size, Array.size_setIfInBounds, Array.size_push]; done) | (simp only [newRow_size, Array.size_setIfInBounds, Array.size_push]; omega)) []), ?_⟩, (by first | omega | (simp only [newRow_size, Array.size_setIfInBounds, Array.size_push]; done) | (simp only [newRow_size, Array.size_setIfInBounds, Array.size_push]; omega)), fun c hc _ => by simp (disch := first | omega | (simp only [newRow_size, Array.size_setIfInBounds, Array.size_push]; done) | (simp only [newRow_size, Array.size_setIfInBounds, Array.size_push]; omega)) []⟩
  intro i x hx
  cases i with
  | succ i => simp at hx
  | zero =>
    simp at hx
    subst hx
    refine ⟨by simp, .slice (some ⟨h.size, 0, none⟩) 1 1, by simp [tagOf], .inr ⟨h.size, 0, 1, [.int .i64 1], rfl, by simp [tagOf], Nat.le_refl _, cel_of (es := 1) (lv := true) (an := []) (by simp (disch := first | omega | (simp only [newRow_size, Array.size_setIfInBounds, Array.size_push]; done) | (simp only [newRow_size, Array.size_setIfInBounds, Array.size_push]; omega)) []), ?_⟩⟩
    intro i x hx
    cases i with
    | succ i => simp [tagOf] at hx
    | zero =>
      simp [tagOf] at hx
      subst hx
      exact ⟨by simp, by simp [IntC]⟩

theorem tag_short (p : ByteArray) : ShortT [tagOf p] := ⟨by simp, by simp [tagOf]⟩

def q1 : Qm := ⟨1, [⟨7, 5, false, [tagOf str47_97], []⟩], 7⟩
theorem q1_eq : putM (Qm.new 1 5) 7 [tagOf str47_97] = (0, q1) := by simp [putM, fitsM, Qm.new, tagOf, q1]
theorem q1_put : putM q1 9 [tagOf str47_98] = (46, q1) := by simp [putM, fitsM, tagOf, q1]
theorem q1_next : nextM q1 9 = q1.items := by simp [nextM, q1]
theorem q1_took : tookM q1 7 = (1, ⟨1, [], 7⟩) := by simp [tookM, q1, List.takeWhile, List.dropWhile]
theorem q1_good : q1.Good := by
  have := (Qm.Good.new (room := 1) (b := 5) (by omega) (by omega) (by omega) (by omega)).put 7 [tagOf str47_97]
  rwa [q1_eq] at this

set_option maxHeartbeats 1000000 in
theorem known_spec {F : Nat} (hF : 17592186044440 ≤ F) (h : H) : Ans (cf F 18 [] h) fun u h' => u = .bool true ∧ Kept h h' [] := by
  generalize hQ : (fun (u : Value) (h' : H) => u = .bool true ∧ Kept h h' []) = Q
  obtain ⟨F, rfl⟩ : ∃ G, F = G + 1 := ⟨F - 1, by omega⟩
  rw [cf_step (a := a18) rfl rfl (by simp [a18])]
  simp (disch := first | omega | (simp only [newRow_size, Array.size_setIfInBounds, Array.size_push]; done) | (simp only [newRow_size, Array.size_setIfInBounds, Array.size_push]; omega)) [a18, r18_0, r18_1]
  refine Ans.next (New_spec (F := F) (by omega) h 1 5 (by omega) (by omega) (by omega) (by omega)) ?_
  rintro v h1 ⟨b, r, rfl, s, zb, zr, hb, hr, hbr, k1⟩
  have s1 := s (since h1.size) (by simp; omega) (by simp; omega)
  simp (disch := first | omega | (simp only [newRow_size, Array.size_setIfInBounds, Array.size_push]; done) | (simp only [newRow_size, Array.size_setIfInBounds, Array.size_push]; omega)) [r18_2, New_bad1 (F := F) (by omega) h1 0 (-1) (by omega), r18_3, num_eq (F := F) (by omega), eqT, eqF, neT, neF, ltT, ltF, leT, leF, nltT, nltF, nleT, nleF, nneT, nneF, List.getElem?_cons_zero, List.getElem?_cons_succ, r18_5]
  refine Ans.next (tag_spec (F := F) (by omega) h1 str47_97) ?_
  rintro v2 h2 ⟨t2, k2⟩
  have y2 := k2.1
  simp (disch := first | omega | (simp only [newRow_size, Array.size_setIfInBounds, Array.size_push]; done) | (simp only [newRow_size, Array.size_setIfInBounds, Array.size_push]; omega)) []
  refine Ans.next (Put_spec (F := F) (by omega) (s1.frame k2) (Qm.Good.new (by omega) (by omega) (by omega) (by omega)) t2 (by simp; omega) (tag_short _) (fun c hc => by show h1.size ≤ c; omega) 7) ?_
  rw [q1_eq]
  rintro v3 h3 ⟨rfl, s3, k3⟩
  have y3 := k3.1
  simp (disch := first | omega | (simp only [newRow_size, Array.size_setIfInBounds, Array.size_push]; done) | (simp only [newRow_size, Array.size_setIfInBounds, Array.size_push]; omega)) [r18_6]
  refine Ans.next (tag_spec (F := F) (by omega) h3 str47_98) ?_
  rintro v4 h4 ⟨t4, k4⟩
  have y4 := k4.1
  simp (disch := first | omega | (simp only [newRow_size, Array.size_setIfInBounds, Array.size_push]; done) | (simp only [newRow_size, Array.size_setIfInBounds, Array.size_push]; omega)) []
  refine Ans.next (Put_spec (F := F) (by omega) (s3.frame k4) q1_good t4 (by simp; omega) (tag_short _) (fun c hc => by show h1.size ≤ c; omega) 9) ?_
  rw [q1_put]
  rintro v5 h5 ⟨rfl, s5, k5⟩
  have y5 := k5.1
  simp (disch := first | omega | (simp only [newRow_size, Array.size_setIfInBounds, Array.size_push]; done) | (simp only [newRow_size, Array.size_setIfInBounds, Array.size_push]; omega)) [r18_7]
  refine Ans.next (Next_spec (F := F) (by omega) s5 q1_good ⟨by simp [q1], by simp [q1, tag_short, ShortP]⟩ 9) ?_
  rintro v6 h6 ⟨b6, s6, k6⟩
  rw [q1_next] at b6
  have hl := b6.sl.len
  obtain ⟨b', o, c, cs, es, lv, an, rfl, hk, hg, hle, hI⟩ := b6.sl.at' (i := 0) rfl
  obtain ⟨_, _, _, e0, e1, _⟩ := id_at hI hle
  have hlen : q1.items.length = 1 := rfl
  have y6 := k6.1
  simp only [Nat.zero_mul, Nat.add_zero] at e0 e1
  simp (disch := first | omega | (simp only [newRow_size, Array.size_setIfInBounds, Array.size_push]; done) | (simp only [newRow_size, Array.size_setIfInBounds, Array.size_push]; omega)) [r18_8, num_eq (F := F) (by omega), hl, hlen, hg, e0, e1, eqT, eqF, neT, neF, ltT, ltF, leT, leF, nltT, nltF, nleT, nleF, nneT, nneF, List.getElem?_cons_zero, List.getElem?_cons_succ]
  refine Ans.next (Took_spec (F := F) (by omega) s6 q1_good 7) ?_
  rw [q1_took]
  rintro v7 h7 ⟨rfl, f7, s7, k7⟩
  simp (disch := first | omega | (simp only [newRow_size, Array.size_setIfInBounds, Array.size_push]; done) | (simp only [newRow_size, Array.size_setIfInBounds, Array.size_push]; omega)) [Len_eq (F := F) (by omega) s7, Last_eq (F := F) (by omega) s7, eqT, eqF, neT, neF, ltT, ltF, leT, leF, nltT, nltF, nleT, nleF, nneT, nneF, List.getElem?_cons_zero, List.getElem?_cons_succ]
  have kA : Kept h1 h7 (b :: (some r).toList) := k2.of_nil.trans (k3.trans (k4.of_nil.trans (k5.trans ((k6.weak (by simp)).trans k7))))
  subst hQ
  refine Ans.of ⟨rfl, by have := k1.1; have := kA.1; omega, fun c hc _ => (kA.get (by have := k1.1; omega) ?_).trans (k1.get hc (by simp))⟩
  simp; omega

end Go.Proofs.Ytkkagpchcefidaa

/- Ev22: parts of slices. -/
set_option linter.unusedSimpArgs false
set_option linter.unusedVariables false
namespace Go.Ev

/-- A part of a slice. -/
def slcV (size : Nat) (v : Value) (lo hi : Option Value) : Option Value := match v with
    | .slice none 0 0 => match optInt hi 0 with
      | some q => match optInt lo 0 with
        | some p => if p ≤ q ∧ q ≤ 0 then some (.slice none 0 0) else none
        | none => none
      | none => none
    | .slice (some ⟨b, o, none⟩) n c => match optInt hi n with
      | some q => match optInt lo 0 with
        | some p => if p ≤ q ∧ q ≤ c then some (.slice (some ⟨b, o + p * size, none⟩) (q - p) (c - p)) else none
        | none => none
      | none => none
    | _ => none

@[simp ↓ high] theorem evOp_slice {size : Nat} {x : Operand} {lo hi : Option Operand} {s : Env} {h : H} : evOp (.slice size x lo hi) s h = (slcV size (aeval s x) (lo.map (aeval s)) (hi.map (aeval s))).map fun v => (v, h) := by
  show (match aeval s x with
    | .slice none 0 0 => match optInt (hi.map (aeval s)) 0 with
      | some q => match optInt (lo.map (aeval s)) 0 with
        | some p => if p ≤ q ∧ q ≤ 0 then some (Value.slice none 0 0, h) else none
        | none => none
      | none => none
    | .slice (some ⟨b, o, none⟩) n c => match optInt (hi.map (aeval s)) n with
      | some q => match optInt (lo.map (aeval s)) 0 with
        | some p => if p ≤ q ∧ q ≤ c then some (.slice (some ⟨b, o + p * size, none⟩) (q - p) (c - p), h) else none
        | none => none
      | none => none
    | _ => none) = _
  unfold slcV
  split
  · split
    · split
      · split <;> rfl
      · rfl
    · rfl
  · split
    · split
      · split <;> rfl
      · rfl
    · rfl
  · rfl

section
variable {α : Type} {ok : Nat → Prop} {w : Nat} {R : H → List Value → α → Prop} {h : H} {v : Value} {xs : List α}

/-- The first ones. -/
theorem Bld.take (s : Bld ok w R h v xs) {n : Nat} (hn : n ≤ xs.length) : ∃ v', slcV w v none (some (.int .i64 n)) = some v' ∧ SlR ok w R h v' (xs.take n) := by
  rcases s with ⟨rfl, rfl⟩ | ⟨b, cs, an, rfl, hk, hb, hl, hi⟩
  · simp at hn; subst hn
    exact ⟨.slice none 0 0, by simp [slcV, optInt], .inl ⟨.inl rfl, rfl⟩⟩
  · refine ⟨.slice (some ⟨b, 0, none⟩) n xs.length, by simp [slcV, optInt, hn], .inr ⟨b, 0, xs.length, cs, ?_, by simp; omega, hk, cel_of hb, ?_⟩⟩
    · rw [List.length_take, Nat.min_eq_left hn]
    · intro i x hx
      have hi' := (List.getElem?_eq_some_iff.1 hx).1
      simp at hi'
      rw [List.getElem?_take, if_pos (by omega)] at hx
      refine ⟨?_, ?_⟩
      · have : (i + 1) * w ≤ xs.length * w := Nat.mul_le_mul_right _ (by omega)
        rw [Nat.add_mul] at this
        omega
      · rw [Nat.zero_add]; exact hi i x hx

/-- All but the first ones. -/
theorem Bld.drop (s : Bld ok w R h v xs) {n : Nat} (hn : n ≤ xs.length) : ∃ v', slcV w v (some (.int .i64 n)) none = some v' ∧ SlR ok w R h v' (xs.drop n) := by
  rcases s with ⟨rfl, rfl⟩ | ⟨b, cs, an, rfl, hk, hb, hl, hi⟩
  · simp at hn; subst hn
    exact ⟨.slice none 0 0, by simp [slcV, optInt], .inl ⟨.inl rfl, rfl⟩⟩
  · refine ⟨.slice (some ⟨b, 0 + n * w, none⟩) (xs.length - n) (xs.length - n), by simp [slcV, optInt, hn], .inr ⟨b, 0 + n * w, xs.length - n, cs, ?_, by simp, hk, cel_of hb, ?_⟩⟩
    · rw [List.length_drop]
    · intro i x hx
      rw [List.getElem?_drop] at hx
      have hi' := (List.getElem?_eq_some_iff.1 hx).1
      refine ⟨?_, ?_⟩
      · have : (n + i + 1) * w ≤ xs.length * w := Nat.mul_le_mul_right _ (by omega)
        rw [Nat.add_mul, Nat.add_mul] at this
        omega
      · have := hi (n + i) x hx
        rw [Nat.add_mul] at this
        rw [Nat.zero_add]; exact this
end

end Go.Ev

/- One step of a script on the program's queue; the items of a queue are sound. -/
set_option linter.unusedSimpArgs false
set_option linter.unusedVariables false
namespace Go.Proofs.Ytkkagpchcefidaa
open Go.Ev

structure Stp where
  kind : Int
  on : Int
  stamp : Int
  chgs : List Tgd
  prts : List Prt

def StpC (ok : Nat → Prop) (h : H) (cs : List Value) (s : Stp) : Prop := ∃ v w, cs = [.int .i64 s.kind, .int .i64 s.on, .int .i64 s.stamp, v, w] ∧ SlR ok 5 (TgdC ok) h v s.chgs ∧ SlR ok 5 (PrtC ok) h w s.prts
def Stp.Short (s : Stp) : Prop := ShortT s.chgs ∧ ShortP s.prts

theorem StpC.imp {ok ok' : Nat → Prop} {h h' : H} {cs : List Value} {x : Stp} (s : StpC ok h cs x) (h1 : ∀ b, b < h.size → ok b → ok' b) (h3 : ∀ b cs, ok b → cel h b = some cs → cel h' b = some cs) : StpC ok' h' cs x := by
  obtain ⟨v, w, e, s1, s2⟩ := s
  exact ⟨v, w, e, SlTgd.imp s1 h1 h3, SlPrt.imp s2 h1 h3⟩

def stepM (q : Qm) (s : Stp) : Qm := if s.kind = 1 then (putM q s.stamp s.chgs).2 else if s.kind = 2 then (collM q s.stamp s.prts).2 else if s.kind = 4 then (tookM q s.stamp).2 else q

def StepPost (ok : Nat → Prop) (h : H) (b : Nat) (r : Option Nat) (q' : Qm) (u : Value) (h' : H) : Prop :=
  u = .tuple ⟨[]⟩ ∧ ∃ first', QAt ok h' b 0 r first' q' ∧ Kept h h' (b :: r.toList)

theorem step_spec {F : Nat} (hF : 17592186044440 ≤ F) {ok ok2 : Nat → Prop} {h : H} {b : Nat} {r : Option Nat} {first : Nat} {q : Qm} (s : QAt ok h b 0 r first q) (g : q.Good) {cs : List Value} {x : Stp}
    (sx : StpC ok2 h cs x) (hb2 : ¬ ok2 b) (hr2 : ∀ c, r = some c → ¬ ok2 c) (hs : x.Short) (hok : ∀ c, h.size ≤ c → ok c) :
    Ans (cf F 23 [.pointer (some ⟨b, 0, none⟩), .agg ⟨cs⟩] h) (StepPost ok h b r (stepM q x)) := by
  obtain ⟨F, rfl⟩ : ∃ G, F = G + 1 := ⟨F - 1, by omega⟩
  rw [cf_step (a := a23) rfl rfl (by simp [a23])]
  obtain ⟨v, w, rfl, s1, s2⟩ := sx
  have ov := s1.one
  have ow := s2.one
  simp only [oneCell] at ov ow
  have hbs := lt_of_get s.at'
  simp (disch := first | omega | (simp only [newRow_size, Array.size_setIfInBounds, Array.size_push]; done) | (simp only [newRow_size, Array.size_setIfInBounds, Array.size_push]; omega)) [a23, r23_0, r23_1, ov, ow, r23_2, eqT, eqF, neT, neF, ltT, ltF, leT, leF, nltT, nltF, nleT, nleF, nneT, nneF, List.getElem?_cons_zero, List.getElem?_cons_succ]
  have kR := rowKept h [.int .i64 x.kind, .int .i64 x.on, .int .i64 x.stamp, v, w] 0 []
  have sR := s.frame kR
  have t1 := SlTgd.imp s1 (ok' := ok2) (fun _ _ q => q) (keep_of kR.c (by simp))
  have t2 := SlPrt.imp s2 (ok' := ok2) (fun _ _ q => q) (keep_of kR.c (by simp))
  have hokR : ∀ c, (Ev.newRow h [.int .i64 x.kind, .int .i64 x.on, .int .i64 x.stamp, v, w] 0 []).size ≤ c → ok c := fun c hc => hok c (by simp at hc; omega)
  by_cases h1 : x.kind = 1
  · have hm : stepM q x = (putM q x.stamp x.chgs).2 := by unfold stepM; rw [if_pos h1]
    rw [hm]
    simp (disch := first | omega | (simp only [newRow_size, Array.size_setIfInBounds, Array.size_push]; done) | (simp only [newRow_size, Array.size_setIfInBounds, Array.size_push]; omega)) [h1, eqT, eqF, neT, neF, ltT, ltF, leT, leF, nltT, nltF, nleT, nleF, nneT, nneF, List.getElem?_cons_zero, List.getElem?_cons_succ, r23_3]
    rw [h1] at kR sR t1 t2 hokR
    refine Ans.next (Put_spec (F := F) (by omega) sR g t1 hb2 hs.1 hokR x.stamp) ?_
    rintro u h2 ⟨rfl, s3, k3⟩
    simp (disch := first | omega | (simp only [newRow_size, Array.size_setIfInBounds, Array.size_push]; done) | (simp only [newRow_size, Array.size_setIfInBounds, Array.size_push]; omega)) []
    exact Ans.of ⟨rfl, first, s3, kR.of_nil.trans k3⟩
  · by_cases h2 : x.kind = 2
    · have hm : stepM q x = (collM q x.stamp x.prts).2 := by unfold stepM; rw [if_neg h1, if_pos h2]
      rw [hm]
      simp (disch := first | omega | (simp only [newRow_size, Array.size_setIfInBounds, Array.size_push]; done) | (simp only [newRow_size, Array.size_setIfInBounds, Array.size_push]; omega)) [h2, eqT, eqF, neT, neF, ltT, ltF, leT, leF, nltT, nltF, nleT, nleF, nneT, nneF, List.getElem?_cons_zero, List.getElem?_cons_succ, r23_4, r23_5]
      rw [h2] at kR sR t1 t2 hokR
      refine Ans.next (Collapse_spec (F := F) (by omega) sR g t2 hb2 hr2 hs.2 hokR x.stamp) ?_
      rintro u h2 ⟨f2, rfl, s3, k3⟩
      simp (disch := first | omega | (simp only [newRow_size, Array.size_setIfInBounds, Array.size_push]; done) | (simp only [newRow_size, Array.size_setIfInBounds, Array.size_push]; omega)) []
      exact Ans.of ⟨rfl, f2, s3, kR.of_nil.trans k3⟩
    · by_cases h4 : x.kind = 4
      · have hm : stepM q x = (tookM q x.stamp).2 := by unfold stepM; rw [if_neg h1, if_neg h2, if_pos h4]
        rw [hm]
        simp (disch := first | omega | (simp only [newRow_size, Array.size_setIfInBounds, Array.size_push]; done) | (simp only [newRow_size, Array.size_setIfInBounds, Array.size_push]; omega)) [h4, eqT, eqF, neT, neF, ltT, ltF, leT, leF, nltT, nltF, nleT, nleF, nneT, nneF, List.getElem?_cons_zero, List.getElem?_cons_succ, r23_4, r23_6, r23_7]
        rw [h4] at kR sR
        refine Ans.next (Took_spec (F := F) (by omega) sR g x.stamp) ?_
        rintro u h2 ⟨rfl, f2, s3, k3⟩
        simp (disch := first | omega | (simp only [newRow_size, Array.size_setIfInBounds, Array.size_push]; done) | (simp only [newRow_size, Array.size_setIfInBounds, Array.size_push]; omega)) []
        exact Ans.of ⟨rfl, f2, s3, kR.of_nil.trans k3⟩
      · have hm : stepM q x = q := by unfold stepM; rw [if_neg h1, if_neg h2, if_neg h4]
        rw [hm]
        simp (disch := first | omega | (simp only [newRow_size, Array.size_setIfInBounds, Array.size_push]; done) | (simp only [newRow_size, Array.size_setIfInBounds, Array.size_push]; omega)) [h1, h2, h4, eqT, eqF, neT, neF, ltT, ltF, leT, leF, nltT, nltF, nleT, nleF, nneT, nneF, List.getElem?_cons_zero, List.getElem?_cons_succ, r23_4, r23_6]
        exact Ans.of ⟨rfl, first, sR, kR.of_nil⟩

end Go.Proofs.Ytkkagpchcefidaa
