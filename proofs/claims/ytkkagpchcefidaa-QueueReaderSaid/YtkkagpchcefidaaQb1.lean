/- The program's queue, as the evaluator's memory holds it; held, at, fits, put, New. -/
import Derived.Test.YtkkagpchcefidaaQc3
import Derived.Test.YtkkagpchcefidaaQm0
set_option linter.unusedSimpArgs false
set_option linter.unusedVariables false
namespace Go.Proofs.Ytkkagpchcefidaa
open Go.Ev

/-! ### deferred calls of what a slot holds -/
def deferV (v : Value) (args : List Value) (kn : K) (s : Env) (h : H) (ds : Ds) : Res := match v with
  | .func (.func g) ⟨first⟩ ⟨cap⟩ => kn s h (⟨g, first ++ args ++ cap⟩ :: ds)
  | _ => none
theorem deferK_v {f : Operand} {args : List Operand} {keep : List Nat} {kn : K} {s : Env} {h : H} {ds : Ds} : deferK f args keep kn s h ds = deferV (aeval s f) (args.map (aeval s)) kn (s.keep keep) h ds := by
  simp only [deferK, evDefer, deferV]
  generalize aeval s f = v
  cases v with
  | func g fs cs =>
    obtain ⟨fs⟩ := fs
    obtain ⟨cs⟩ := cs
    cases g <;> rfl
  | _ => rfl
theorem deferV_fn {g : FuncId} {first cap args : List Value} {kn : K} {s : Env} {h : H} {ds : Ds} : deferV (.func (.func g) ⟨first⟩ ⟨cap⟩) args kn s h ds = kn s h (⟨g, first ++ args ++ cap⟩ :: ds) := nr rfl
theorem callV_fn (cf : CF) (g : FuncId) (first cap args : List Value) (h : H) : callV cf (.func (.func g) ⟨first⟩ ⟨cap⟩) args h = cf g (first ++ args ++ cap) h := nr rfl
theorem evP_call {cf : CF} {f : Operand} {args : List Operand} {s : Env} {h : H} {kn : K} {ds : Ds} {d : Option Nat} {os : List AOper} : evP cf (⟨d, none, .call f args⟩ :: os) s h kn ds = nextP (callV cf (aeval s f) (args.map (aeval s)) h) cf d os s kn ds := by
  simp only [evP, evOps, evOper, nextP, evAct_call]
  generalize callV cf (aeval s f) (args.map (aeval s)) h = x
  cases x with
  | none => rfl
  | some p => obtain ⟨v, h'⟩ := p; rfl

theorem lock_eq {F : Nat} (hF : 1 ≤ F) (args : List Value) (h : H) : cf F 59 args h = flipX 0 1 args h := by
  obtain ⟨F, rfl⟩ : ∃ G, F = G + 1 := ⟨F - 1, by omega⟩
  exact cf_X rfl
@[simp] theorem dunlock_eq (args : List Value) (h : H) : cfX XD 60 args h = flipX 1 0 args h := rfl

/-- The ring as a slice. -/
def rsl (r : Option Nat) (n : Nat) : Value := match r with
  | none => .slice none 0 0
  | some r => .slice (some ⟨r, 0, none⟩) n n
@[simp] theorem rsl_none (n : Nat) : rsl none n = .slice none 0 0 := rfl
@[simp] theorem rsl_some (r n : Nat) : rsl (some r) n = .slice (some ⟨r, 0, none⟩) n n := rfl

def qcells (lk : Int) (r : Option Nat) (first : Nat) (q : Qm) : List Value := [.int .i32 lk, .int .u32 0, rsl r q.room, .int .i64 first, .int .i64 q.items.length, .int .i64 q.last]

/-- What the ring holds. -/
def Ring (ok : Nat → Prop) (h : H) (room first : Nat) (items : List Itm) (cs : List Value) : Prop :=
  cs.length = room * 5 ∧ ∀ (k : Nat) (x : Itm), items[k]? = some x → ItmC ok h ((cs.drop ((first + k) % room * 5)).take 5) x

structure QAt (ok : Nat → Prop) (h : H) (b : Nat) (lk : Int) (r : Option Nat) (first : Nat) (q : Qm) : Prop where
  at' : hget h b = some (.cells (qcells lk r first q) 0 true [])
  no : r = none → q.room = 0 ∧ first = 0
  yes : ∀ c, r = some c → 0 < q.room ∧ first < q.room ∧ c ≠ b ∧ ¬ ok c ∧ ∃ cs, hget h c = some (.cells cs 5 true []) ∧ Ring ok h q.room first q.items cs
  okb : ¬ ok b

theorem Ring.kc {ok : Nat → Prop} {h h' : H} {room first : Nat} {items : List Itm} {cs : List Value} {L : List Nat} (s : Ring ok h room first items cs) (k : KeptC h h' L) (hL : ∀ b ∈ L, ¬ ok b) : Ring ok h' room first items cs :=
  ⟨s.1, fun i x hx => ItmC.imp (s.2 i x hx) (fun _ _ q => q) (keep_of k hL)⟩

theorem QAt.kept {ok : Nat → Prop} {h h' : H} {b : Nat} {lk : Int} {r : Option Nat} {first : Nat} {q : Qm} {L : List Nat} (s : QAt ok h b lk r first q) (k : Kept h h' L) (hb : b ∉ L) (hr : ∀ c, r = some c → c ∉ L) (hL : ∀ c ∈ L, ¬ ok c) : QAt ok h' b lk r first q := by
  refine ⟨(k.get (lt_of_get s.at') hb).trans s.at', s.no, ?_, s.okb⟩
  intro c e
  obtain ⟨h1, h2, h3, h4, cs, h5, h6⟩ := s.yes c e
  exact ⟨h1, h2, h3, h4, cs, (k.get (lt_of_get h5) (hr c e)).trans h5, h6.kc k.c hL⟩

theorem QAt.frame {ok : Nat → Prop} {h h' : H} {b : Nat} {lk : Int} {r : Option Nat} {first : Nat} {q : Qm} (s : QAt ok h b lk r first q) (k : Kept h h' []) : QAt ok h' b lk r first q := s.kept k (by simp) (by simp) (by simp)

theorem at_eq {F : Nat} (hF : 1 ≤ F) {ok : Nat → Prop} {h : H} {b : Nat} {lk : Int} {r first : Nat} {q : Qm} (s : QAt ok h b lk (some r) first q) (g : q.Good) (k : Nat) (hk : k ≤ 64) :
    cf F 43 [.pointer (some ⟨b, 0, none⟩), .int .i64 k] h = some (.pointer (some ⟨r, (first + k) % q.room * 5, none⟩), h) := by
  obtain ⟨F, rfl⟩ : ∃ G, F = G + 1 := ⟨F - 1, by omega⟩
  have hb := s.at'
  obtain ⟨h1, h2, h3, h4, cs, h5, h6⟩ := s.yes r rfl
  have hg := g.room
  rw [cf_step (a := a43) rfl rfl (by simp [a43])]
  have hw : IntKind.i64.wrap ((first : Int) + (k : Int)) = (first : Int) + (k : Int) := wrap_id (by omega) (by omega)
  have hm : ((first : Int) + (k : Int)).tmod (q.room : Int) = (((first + k) % q.room : Nat) : Int) := by
    rw [Int.tmod_eq_emod_of_nonneg (by omega)]; rfl
  have hlt : (first + k) % q.room < q.room := Nat.mod_lt _ h1
  have hz : ¬ q.room = 0 := by omega
  have hbs := lt_of_get hb
  generalize (first + k) % q.room = p at hm hlt ⊢
  simp (disch := first | omega | (simp only [newRow_size, Array.size_setIfInBounds, Array.size_push]; done) | (simp only [newRow_size, Array.size_setIfInBounds, Array.size_push]; omega)) [a43, r43_0, d43_1, hb, qcells, hw, hm, hz, eqT, eqF, neT, neF, ltT, ltF, leT, leF, nltT, nltF, nleT, nleF, nneT, nneF, flipX, List.getElem?_cons_zero, List.getElem?_cons_succ]

theorem held_eq {F : Nat} (hF : 2 ≤ F) {ok : Nat → Prop} {h : H} {b : Nat} {r : Option Nat} {first : Nat} {q : Qm} (s : QAt ok h b 0 r first q) :
    cf F 42 [.pointer (some ⟨b, 0, none⟩)] h = some (.func (.func 60) #[.pointer (some ⟨b, 0, none⟩)] #[], h.setIfInBounds b (.cells (qcells 1 r first q) 0 true [])) := by
  obtain ⟨F, rfl⟩ : ∃ G, F = G + 1 := ⟨F - 1, by omega⟩
  have hb := s.at'
  have hbs := lt_of_get hb
  rw [cf_step (a := a42) rfl rfl (by simp [a42])]
  simp (disch := first | omega | (simp only [newRow_size, Array.size_setIfInBounds, Array.size_push]; done) | (simp only [newRow_size, Array.size_setIfInBounds, Array.size_push]; omega)) [a42, r42_0, r42_1, r42_2, hb, qcells, lock_eq (F := F) (by omega), eqT, eqF, neT, neF, ltT, ltF, leT, leF, nltT, nltF, nleT, nleF, nneT, nneF, flipX, List.getElem?_cons_zero, List.getElem?_cons_succ]

theorem fits_eq {F : Nat} (hF : 1 ≤ F) {ok : Nat → Prop} {h : H} {b : Nat} {lk : Int} {r : Option Nat} {first : Nat} {q : Qm} (s : QAt ok h b lk r first q) (stamp : Int) :
    cf F 50 [.pointer (some ⟨b, 0, none⟩), .int .i64 stamp] h = some (.int .i64 (fitsM q.last stamp), h) := by
  obtain ⟨F, rfl⟩ : ∃ G, F = G + 1 := ⟨F - 1, by omega⟩
  have hb := s.at'
  have hbs := lt_of_get hb
  rw [cf_step (a := a50) rfl rfl (by simp [a50])]
  unfold fitsM
  by_cases c1 : 2147483647 < stamp
  · simp (disch := first | omega | (simp only [newRow_size, Array.size_setIfInBounds, Array.size_push]; done) | (simp only [newRow_size, Array.size_setIfInBounds, Array.size_push]; omega)) [a50, r50_0, r50_1, r50_2, r50_3, r50_4, r50_5, hb, qcells, eqT, eqF, neT, neF, ltT, ltF, leT, leF, nltT, nltF, nleT, nleF, nneT, nneF, flipX, List.getElem?_cons_zero, List.getElem?_cons_succ]
  · by_cases c2 : stamp ≤ q.last
    · simp (disch := first | omega | (simp only [newRow_size, Array.size_setIfInBounds, Array.size_push]; done) | (simp only [newRow_size, Array.size_setIfInBounds, Array.size_push]; omega)) [a50, r50_0, r50_1, r50_2, r50_3, r50_4, r50_6, r50_7, hb, qcells, eqT, eqF, neT, neF, ltT, ltF, leT, leF, nltT, nltF, nleT, nleF, nneT, nneF, flipX, List.getElem?_cons_zero, List.getElem?_cons_succ]
    · simp (disch := first | omega | (simp only [newRow_size, Array.size_setIfInBounds, Array.size_push]; done) | (simp only [newRow_size, Array.size_setIfInBounds, Array.size_push]; omega)) [a50, r50_0, r50_1, r50_2, r50_3, r50_4, r50_6, r50_8, hb, qcells, eqT, eqF, neT, neF, ltT, ltF, leT, leF, nltT, nltF, nleT, nleF, nneT, nneF, flipX, List.getElem?_cons_zero, List.getElem?_cons_succ]

theorem fits_nil {F : Nat} (hF : 1 ≤ F) (h : H) (stamp : Int) :
    cf F 50 [.pointer none, .int .i64 stamp] h = some (.int .i64 (fitsM 0 stamp), h) := by
  obtain ⟨F, rfl⟩ : ∃ G, F = G + 1 := ⟨F - 1, by omega⟩
  rw [cf_step (a := a50) rfl rfl (by simp [a50])]
  unfold fitsM
  by_cases c1 : 2147483647 < stamp
  · simp (disch := first | omega | (simp only [newRow_size, Array.size_setIfInBounds, Array.size_push]; done) | (simp only [newRow_size, Array.size_setIfInBounds, Array.size_push]; omega)) [a50, r50_0, r50_1, r50_2, r50_4, r50_5, eqT, eqF, neT, neF, ltT, ltF, leT, leF, nltT, nltF, nleT, nleF, nneT, nneF, flipX, List.getElem?_cons_zero, List.getElem?_cons_succ]
  · by_cases c2 : stamp ≤ 0
    · simp (disch := first | omega | (simp only [newRow_size, Array.size_setIfInBounds, Array.size_push]; done) | (simp only [newRow_size, Array.size_setIfInBounds, Array.size_push]; omega)) [a50, r50_0, r50_1, r50_2, r50_4, r50_6, r50_7, eqT, eqF, neT, neF, ltT, ltF, leT, leF, nltT, nltF, nleT, nleF, nneT, nneF, flipX, List.getElem?_cons_zero, List.getElem?_cons_succ]
    · simp (disch := first | omega | (simp only [newRow_size, Array.size_setIfInBounds, Array.size_push]; done) | (simp only [newRow_size, Array.size_setIfInBounds, Array.size_push]; omega)) [a50, r50_0, r50_1, r50_2, r50_4, r50_6, r50_8, eqT, eqF, neT, neF, ltT, ltF, leT, leF, nltT, nltF, nleT, nleF, nneT, nneF, flipX, List.getElem?_cons_zero, List.getElem?_cons_succ]

theorem mod_ne {room first k n : Nat} (h1 : k < n) (h2 : n < room) : (first + k) % room ≠ (first + n) % room := by
  intro e
  have h3 : (first + n) % room = ((first + k) % room + (n - k)) % room := by
    rw [show first + n = (first + k) + (n - k) by omega, Nat.add_mod]
    simp
  rw [← e] at h3
  have hlt : (first + k) % room < room := Nat.mod_lt _ (by omega)
  generalize (first + k) % room = a at h3 hlt
  by_cases c : a + (n - k) < room
  · rw [Nat.mod_eq_of_lt c] at h3; omega
  · rw [Nat.mod_eq_sub_mod (by omega), Nat.mod_eq_of_lt (by omega)] at h3; omega

theorem splice_drop (cs new : List Value) {p q room : Nat} (hl : cs.length = room * 5) (hp : p < room) (hq : q < room) (hn : new.length = 5) :
    (((cs.take (p * 5) ++ new ++ cs.drop (p * 5 + 5)).drop (q * 5)).take 5) = if q = p then new else (cs.drop (q * 5)).take 5 := by
  apply List.ext_getElem?
  intro i
  by_cases hi : i < 5
  · rw [List.getElem?_take, if_pos hi, List.getElem?_drop]
    have hsp := splice_get cs new (p * 5) (q * 5 + i) (by omega)
    rw [hn] at hsp
    rw [hsp]
    by_cases e : q = p
    · rw [if_pos e]
      subst e
      rw [if_neg (by omega), if_pos (by omega)]
      congr 1; omega
    · rw [if_neg e, List.getElem?_take, if_pos hi, List.getElem?_drop]
      by_cases c : q * 5 + i < p * 5
      · rw [if_pos c]
      · rw [if_neg c, if_neg (by omega)]
  · rw [List.getElem?_eq_none (by simp; omega)]
    split
    · rw [List.getElem?_eq_none (by omega)]
    · rw [List.getElem?_eq_none (by simp; omega)]

theorem Ring.put {ok : Nat → Prop} {h : H} {room first : Nat} {items : List Itm} {cs new : List Value} {x : Itm} (s : Ring ok h room first items cs) (hlt : items.length < room) (hf : first < room) (hx : ItmC ok h new x) (hn : new.length = 5) :
    Ring ok h room first (items ++ [x]) (cs.take ((first + items.length) % room * 5) ++ new ++ cs.drop ((first + items.length) % room * 5 + 5)) := by
  have hp : (first + items.length) % room < room := Nat.mod_lt _ (by omega)
  refine ⟨?_, ?_⟩
  · have := s.1
    simp [hn]; omega
  · intro k y hy
    have hk := (List.getElem?_eq_some_iff.1 hy).1
    simp at hk
    have hq : (first + k) % room < room := Nat.mod_lt _ (by omega)
    rw [splice_drop cs new s.1 hp hq hn]
    by_cases e : k = items.length
    · subst e
      rw [if_pos rfl]
      simp at hy
      subst hy
      exact hx
    · rw [if_neg (mod_ne (by omega) hlt)]
      rw [List.getElem?_append_left (by omega)] at hy
      exact s.2 k y hy

end Go.Proofs.Ytkkagpchcefidaa
