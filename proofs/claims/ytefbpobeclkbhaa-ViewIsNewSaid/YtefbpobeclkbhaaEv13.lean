/- Ev13: regions that draw their order. -/
import Derived.Test.YtefbpobeclkbhaaEv12
set_option linter.unusedSimpArgs false
set_option linter.unusedVariables false
namespace Go.Ev
variable {P : Program} {ρ : Ren} {h : H} {a : Act} {w : World} {s : Env} {n : Nat} {cf : CF}

/-! ### abstract blocks ahead of the world's -/
theorem Rel.pushNone (r : Rel ρ h w) (x : Blk) : Rel ρ (h.push x) w := by
  have hget : ∀ {b i}, ρ b = some i → (h.push x)[b]? = h[b]? := by
    intro b i hb
    rw [Array.getElem?_push, if_neg (Nat.ne_of_lt (r.dom b i hb))]
  refine ⟨fun b i hb => by have := r.dom b i hb; simp; omega, r.bnd, ?_, ?_, ?_⟩
  · intro b i y hb hy
    rw [hget hb] at hy
    exact r.blk b i y hb hy
  · intro b c i j y z hb hc hij hne hy hz hyd hzd
    rw [hget hb] at hy; rw [hget hc] at hz
    exact r.sep b c i j y z hb hc hij hne hy hz hyd hzd
  · intro b i y a hb hy ha
    rw [hget hb] at hy
    exact r.anc b i y a hb hy ha

theorem Ext.pushNone {ρ0 : Ren} {h0 : H} {w0 : World} (x : Ext ρ0 h0 w0 ρ h w) (y : Blk) : Ext ρ0 h0 w0 ρ (h.push y) w := by
  have hget : ∀ {b}, b < h0.size → (h.push y)[b]? = h[b]? := by
    intro b hb
    rw [Array.getElem?_push, if_neg (by have := x.hsz; omega)]
  refine ⟨x.le, by have := x.hsz; simp; omega, x.wsz, ?_, x.cf, x.nw, ?_, x.io⟩
  · intro b hb hn; rw [hget hb]; exact x.af b hb hn
  · intro b z z' hb h1 h2 h3
    rw [hget hb] at h2
    exact x.dull b z z' hb h1 h2 h3

/-- An abstract block comes to lie in the world. -/
theorem adopt_rel (r : Rel ρ h w) {b : Nat} (hb : ρ b = none) {x : Blk} (hx : h[b]? = some x) (o : Obj) (i : Info) (hi : i.blk = w.heap.size) (hbr : BR (ρ.put b i) i (w.alloc o) x) (ha : x.ancs = []) : Rel (ρ.put b i) h (w.alloc o) := by
  have hle : ρ.le (ρ.put b i) := fun c j hc => by
    have : c ≠ b := fun e => by subst e; rw [hb] at hc; cases hc
    simp [Ren.put, this, hc]
  have hold : ∀ j, j < w.heap.size → (w.alloc o).heap[j]? = w.heap[j]? := fun j hj => by
    rw [heap_alloc', Array.getElem?_push, if_neg (Nat.ne_of_lt hj)]
  have hsz : (w.alloc o).heap.size = w.heap.size + 1 := by rw [heap_alloc']; simp
  have back : ∀ {c k}, ρ.put b i c = some k → (c = b ∧ k = i) ∨ (c ≠ b ∧ ρ c = some k) := by
    intro c k hc
    unfold Ren.put at hc
    split at hc
    · cases hc; exact .inl ⟨‹_›, rfl⟩
    · exact .inr ⟨‹_›, hc⟩
  refine ⟨?_, ?_, ?_, ?_, ?_⟩
  · intro c k hc
    rcases back hc with ⟨rfl, _⟩ | ⟨_, h1⟩
    · exact (Array.getElem?_eq_some_iff.1 hx).1
    · exact r.dom _ _ h1
  · intro c k hc
    rcases back hc with ⟨_, rfl⟩ | ⟨_, h1⟩
    · omega
    · have := r.bnd _ _ h1; omega
  · intro c k y hc hy
    rcases back hc with ⟨rfl, rfl⟩ | ⟨_, h1⟩
    · rw [hx] at hy; cases hy; exact hbr
    · exact (r.blk c k y h1 hy).keep hle (hold _ (r.bnd _ _ h1))
  · intro c d k l y z hc hd hkl hne hy hz hyd hzd
    rcases back hc with ⟨rfl, rfl⟩ | ⟨_, hc2⟩
    · rcases back hd with ⟨rfl, rfl⟩ | ⟨_, hd2⟩
      · exact absurd rfl hne
      · have := r.bnd _ _ hd2; omega
    · rcases back hd with ⟨rfl, rfl⟩ | ⟨_, hd2⟩
      · have := r.bnd _ _ hc2; omega
      · exact r.sep c d k l y z hc2 hd2 hkl hne hy hz hyd hzd
  · intro c k y q hc hy hq
    have : ρ q ≠ none := by
      rcases back hc with ⟨rfl, rfl⟩ | ⟨_, hc2⟩
      · rw [hx] at hy; cases hy; rw [ha] at hq; cases hq
      · exact r.anc c k y q hc2 hy hq
    cases e : ρ q with
    | none => exact absurd e this
    | some z => rw [hle q z e]; simp

theorem adopt_ext {ρ0 : Ren} {h0 : H} {w0 : World} (x : Ext ρ0 h0 w0 ρ h w) {b : Nat} (hb : ρ b = none) (hb0 : h0.size ≤ b) (o : Obj) (i : Info) (hi : i.blk = w.heap.size) : Ext ρ0 h0 w0 (ρ.put b i) h (w.alloc o) := by
  have hle : ρ.le (ρ.put b i) := fun c j hc => by
    have : c ≠ b := fun e => by subst e; rw [hb] at hc; cases hc
    simp [Ren.put, this, hc]
  have hsz : (w.alloc o).heap.size = w.heap.size + 1 := by rw [heap_alloc']; simp
  refine ⟨x.le.trans hle, x.hsz, by have := x.wsz; omega, x.af, ?_, ?_, x.dull, x.io⟩
  · intro b' hb' hl
    rw [heap_alloc', Array.getElem?_push, if_neg (by have := x.wsz; omega)]
    exact x.cf b' hb' hl
  · intro c k hc
    unfold Ren.put at hc
    split at hc
    · rename_i e; subst e; cases hc
      exact .inr ⟨hb0, .inl (by have := x.wsz; omega)⟩
    · exact x.nw c k hc

theorem row_br {ρ2 : Ren} {cs : List Value} (cs' : Array Value) (e : TypeId) (es : Nat) (lv : Bool) (anc : List Nat) (room : Nat)
    (hv : VRs ρ2 cs (cs'.toList.take cs.length)) (hl : cs.length + room ≤ cs'.size) : BR ρ2 ⟨w.heap.size, 0, es, room⟩ (w.alloc (.cells cs' e)) (.cells cs es lv anc) := by
  have hnew := heap_alloc_new w (.cells cs' e)
  refine ⟨rfl, fun j hj => ?_, fun j v hj => ?_⟩
  · have hjl : j < cs'.size := by simp at hj; omega
    constructor
    · simp only [World.cell?, hnew]; simp [hjl]
    · simp only [World.frozen?, hnew]; simp
  · obtain ⟨v', h1, h2⟩ := hv.get hj
    have hjl : j < cs.length := (List.getElem?_eq_some_iff.1 hj).1
    rw [List.getElem?_take, if_pos hjl] at h1
    refine ⟨v', ?_, h2⟩
    simp only [World.cell?, hnew]
    simpa using h1

/-! ### classes of operations -/
inductive Cls where
  | n | r | a | w
  deriving DecidableEq

def clsOp : AOp → Cls
  | .load1 _ | .loadN _ _ | .lookup .. | .lenMap _ | .conv .toString _ => .r
  | .alloc _ | .box _ | .mkSlice .. => .a
  | .store .. | .mapUpd .. | .append .. | .copy .. | .delete .. | .clear .. | .mkMap | .makeSlice .. | .conv .toBytes _ => .w
  | _ => .n

def clsAct : AAct → Cls
  | .op o => clsOp o
  | .call .. => .w

/-- What is neither read nor written in memory. -/
theorem evOp_n {o : AOp} (hc : clsOp o = .n) {v : Value} {h' : H} (e : evOp o s h = some (v, h')) : h' = h ∧ ∀ h2, evOp o s h2 = some (v, h2) := by
  cases o <;> simp only [clsOp, reduceCtorEq] at hc <;> simp only [evOp] at e ⊢
  all_goals first
    | (simp at e; obtain ⟨rfl, rfl⟩ := e; exact ⟨rfl, fun _ => rfl⟩)
    | (obtain ⟨q, hq, hf⟩ := Option.map_eq_some_iff.1 e; cases hf; exact ⟨rfl, fun _ => by rw [hq]; rfl⟩)
    | skip
  case minmax m x y =>
    split at e
    · rename_i k i k' j hx hy
      split at e
      · rename_i hk
        simp at e; obtain ⟨e, rfl⟩ := e
        exact ⟨rfl, fun h2 => by simp [hx, hy, hk, ← e]⟩
      · cases e
    · cases e
  case slice sz x lo hi =>
    split at e
    · rename_i hx
      split at e
      · rename_i z hz
        split at e
        · rename_i p hp
          split at e
          · rename_i hc; simp at e; obtain ⟨rfl, rfl⟩ := e; exact ⟨rfl, fun h2 => by simp only [hx, hz, hp, if_pos hc]⟩
          · cases e
        · cases e
      · cases e
    · rename_i b oo m c hx
      split at e
      · rename_i z hz
        split at e
        · rename_i p hp
          split at e
          · rename_i hc; simp at e; obtain ⟨rfl, rfl⟩ := e; exact ⟨rfl, fun h2 => by simp only [hx, hz, hp, if_pos hc]⟩
          · cases e
        · cases e
      · cases e
    · cases e
  all_goals
    repeat' split at e
    all_goals first
      | (cases e; done)
      | (simp_all; done)
      | (obtain ⟨q, hq, hf⟩ := Option.map_eq_some_iff.1 e; cases hf; simp_all; done)

theorem rd_push {b o m : Nat} {l : List Value} (e : rd h b o m = some l) (x : Blk) : rd (h.push x) b o m = some l := by
  have hb : b < h.size := by
    unfold rd at e
    split at e
    · rename_i hx; exact (Array.getElem?_eq_some_iff.1 hx).1
    · cases e
  unfold rd at e ⊢
  rw [Array.getElem?_push, if_neg (Nat.ne_of_lt hb)]
  exact e

theorem entries_push {x : Value} {m : List (Value × Value)} (e : entriesOf h x = some m) (y : Blk) : entriesOf (h.push y) x = some m := by
  unfold entriesOf at e ⊢
  split at e
  · exact e
  · rename_i b
    split at e
    · rename_i es lv hx
      have hb := (Array.getElem?_eq_some_iff.1 hx).1
      rw [Array.getElem?_push, if_neg (Nat.ne_of_lt hb), hx]
      exact e
    · cases e
  · cases e

/-- What is read stays as it is where a block is made. -/
theorem evOp_r {o : AOp} (hc : clsOp o = .r) {v : Value} {h' : H} (e : evOp o s h = some (v, h')) : h' = h ∧ ∀ x, evOp o s (h.push x) = some (v, h.push x) := by
  cases o <;> simp only [clsOp, reduceCtorEq] at hc <;> simp only [evOp] at e ⊢
  case load1 a =>
    split at e
    · rename_i b o hx
      obtain ⟨q, hq, hf⟩ := Option.map_eq_some_iff.1 e
      cases hf
      refine ⟨rfl, fun x => ?_⟩
      cases hl : rd h b o 1 with
      | none => rw [hl] at hq; cases hq
      | some l => rw [hl] at hq; simp only [rd_push hl x, hq]; rfl
    · cases e
  case loadN m a =>
    split at e
    · rename_i b o hx
      obtain ⟨q, hq, hf⟩ := Option.map_eq_some_iff.1 e
      cases hf
      exact ⟨rfl, fun x => by simp only [rd_push hq x]; rfl⟩
    · cases e
  case lookup ck z a k ok =>
    split at e
    · rename_i es hes
      have hp := fun y => entries_push hes y
      split at e
      · rename_i hk
        split at e
        · cases e; exact ⟨rfl, fun x => by simp_all⟩
        · cases e; exact ⟨rfl, fun x => by simp_all⟩
        · cases e
      · cases e
    · cases e
  case lenMap a =>
    obtain ⟨q, hq, hf⟩ := Option.map_eq_some_iff.1 e
    cases hf
    exact ⟨rfl, fun x => by simp only [entries_push hq x]; rfl⟩
  case conv c a =>
    cases c <;> simp only [reduceCtorEq] at hc
    split at e <;> try (cases e; done)
    all_goals (try (rename_i hq _; cases hq; done))
    · cases e; exact ⟨rfl, fun x => by simp_all⟩
    · rename_i b o m c' _ hx
      split at e
      · cases e; exact ⟨rfl, fun x => by simp_all⟩
      · rename_i hm
        obtain ⟨q, hq, hf⟩ := Option.map_eq_some_iff.1 e
        cases hf
        refine ⟨rfl, fun x => ?_⟩
        cases hl : rd h b o m with
        | none => rw [hl] at hq; cases hq
        | some l => rw [hl] at hq; simp only [rd_push hl x, hq]; simp [hm]

/-- What is made: one block, the same wherever it stands. -/
def blkOf (s : Env) : AOp → Option Blk
  | .alloc z => some (.cells z 0 true [])
  | .box x => (vcells (aeval s x)).map fun l => .cells l 0 true []
  | .mkSlice es _ z ps => match partsOf s ps with
    | some l => (fillL z l).map fun c => .cells c es true []
    | none => none
  | _ => none

def valOf (o : AOp) (b : Nat) : Value :=
  match o with
  | .mkSlice _ len _ _ => .slice (some ⟨b, 0, none⟩) len len
  | _ => .pointer (some ⟨b, 0, none⟩)

theorem evOp_a {o : AOp} (hc : clsOp o = .a) {v : Value} {h' : H} (e : evOp o s h = some (v, h')) : ∃ x, blkOf s o = some x ∧ v = valOf o h.size ∧ h' = h.push x ∧ x.ancs = [] := by
  cases o <;> simp only [clsOp, reduceCtorEq] at hc <;> simp only [evOp] at e
  · cases e; exact ⟨_, rfl, rfl, rfl, rfl⟩
  · obtain ⟨q, hq, hf⟩ := Option.map_eq_some_iff.1 e
    cases hf
    exact ⟨_, by simp [blkOf, hq], rfl, rfl, rfl⟩
  · obtain ⟨q, c, g1, g2, g3⟩ := partsOf_none e
    cases g3
    exact ⟨_, by simp [blkOf, g1, g2], rfl, rfl, rfl⟩
  · rename_i c _
    cases c <;> simp [clsOp] at hc

/-- The same, in the world: the block may have any name. -/
theorem goodA (o : Oper) {ao : AOp} (hcomp : compOp P o.op = some ao) (hc : clsOp ao = .a) (r : Rel ρ h w) (he : EnvRel ρ n s a.tmps) {x : Blk} (hx : blkOf s ao = some x) :
    ∃ v' obj i, Does P o a w v' (w.alloc obj) ∧ i.blk = w.heap.size ∧ (∀ ρ2 : Ren, ρ.le ρ2 → BR ρ2 i (w.alloc obj) x) ∧ (∀ (ρ2 : Ren) (b : Nat), ρ2 b = some i → VR ρ2 (valOf ao b) v') := by
  cases hop : o.op with
  | alloc t =>
    rw [hop] at hcomp; simp [compOp] at hcomp
    obtain ⟨z, hz, rfl⟩ := hcomp
    simp [blkOf] at hx; subst hx
    obtain ⟨zv, g1, g2, g3, _⟩ := zeroC_run hz
    refine ⟨.pointer (some ⟨w.heap.size, 0, none⟩), .cells zv.cells t, ⟨w.heap.size, 0, 0, 0⟩, .inl ?_, rfl, fun ρ2 _ => ?_, fun ρ2 b hb => .ptr hb⟩
    · simp [execOp, hop, Instr.alloc, g1, newVar, Go.newRow, newObj, Sem.run]
    · exact row_br zv.cells t 0 true [] 0 (by rw [g2]; simpa using VRs.konst g3) (by rw [toList_inj g2]; simp)
  | box t x =>
    rw [hop] at hcomp; simp [compOp] at hcomp; subst hcomp
    simp only [blkOf] at hx
    obtain ⟨l, hl, hf⟩ := Option.map_eq_some_iff.1 hx
    cases hf
    have h1 := (aeval_sound he x).cells hl
    refine ⟨.pointer (some ⟨w.heap.size, 0, none⟩), .cells (a.eval x).cells t, ⟨w.heap.size, 0, 0, 0⟩, .inl ?_, rfl, fun ρ2 hle => ?_, fun ρ2 b hb => .ptr hb⟩
    · simp [execOp, hop, Instr.box, newVar, Go.newRow, newObj, Sem.run]
    · exact row_br (a.eval x).cells t 0 true [] 0 (by rw [List.take_of_length_le (by rw [h1.length]; exact Nat.le_refl _)]; exact h1.mono hle) (by rw [h1.length]; simp)
  | buildSlice t len ps =>
    rw [hop] at hcomp; simp only [compOp] at hcomp
    split at hcomp
    · rename_i el hel
      split at hcomp
      · rename_i z1 hz
        split at hcomp
        · rename_i hsm
          simp at hcomp
          obtain ⟨l, hl, rfl⟩ := hcomp
          simp only [blkOf] at hx
          split at hx
          · rename_i vs hv
            obtain ⟨c, hfill, hf⟩ := Option.map_eq_some_iff.1 hx
            cases hf
            obtain ⟨c', f2, hrun⟩ := mkSlice_run o t el len ps hop (elOf_some hel) hz hsm hl rfl (w := w) he hv hfill
            refine ⟨.slice (some ⟨w.heap.size, 0, none⟩) len len, .cells c' el, ⟨w.heap.size, 0, z1.length, 0⟩, .inl hrun, rfl, fun ρ2 hle => ?_, fun ρ2 b hb => .slice hb (Nat.le_refl _) (Nat.le_refl _) (by simp) (.inl rfl)⟩
            exact row_br c' el z1.length true [] 0 (by rw [List.take_of_length_le (by rw [f2.length]; exact Nat.le_refl _)]; exact f2.mono hle) (by rw [f2.length]; simp)
          · cases hx
        · cases hcomp
      · cases hcomp
    · cases hcomp
  | binOp op t x y ty =>
    rw [hop] at hcomp; simp only [compOp, compBin] at hcomp
    repeat' split at hcomp
    all_goals first
      | (cases hcomp; simp [clsOp] at hc; done)
      | cases hcomp
  | convert src dst x =>
    rw [hop] at hcomp; simp only [compOp, compConv] at hcomp
    repeat' split at hcomp
    all_goals first
      | (cases hcomp; simp [clsOp] at hc; done)
      | cases hcomp
  | call c =>
    rw [hop] at hcomp
    obtain ⟨callee, args, ts⟩ := c
    cases callee <;> simp only [compOp, compBuiltin, reduceCtorEq] at hcomp
    repeat' split at hcomp
    all_goals first
      | (cases hcomp; simp [clsOp] at hc; done)
      | (obtain ⟨q, hq, hf⟩ := Option.map_eq_some_iff.1 hcomp; cases hf; simp [clsOp] at hc; done)
      | cases hcomp
  | makeMap t q =>
    rw [hop] at hcomp
    cases q <;> simp [compOp] at hcomp
    subst hcomp; simp [clsOp] at hc
  | slice t x lo hi mx =>
    rw [hop] at hcomp
    cases mx <;> simp only [compOp, reduceCtorEq] at hcomp
    repeat' split at hcomp
    all_goals first
      | (cases hcomp; simp [clsOp] at hc; done)
      | (obtain ⟨q, hq, hf⟩ := Option.map_eq_some_iff.1 hcomp; cases hf; simp [clsOp] at hc; done)
      | cases hcomp
  | _ =>
    rw [hop] at hcomp
    simp only [compOp, reduceCtorEq] at hcomp
    try (repeat' split at hcomp)
    all_goals first
      | (cases hcomp; simp [clsOp] at hc; done)
      | (obtain ⟨q, hq, hf⟩ := Option.map_eq_some_iff.1 hcomp; cases hf; simp [clsOp] at hc; done)
      | cases hcomp

theorem sameCell_eq {a b : Value} (h : sameCell a b = true) : a = b := by
  unfold sameCell at h
  split at h
  · simp at h; obtain ⟨rfl, rfl⟩ := h; rfl
  · rw [ba_eq.1 h]
  · simp at h; rw [h]
  · simp at h; rw [h]
  · simp at h; obtain ⟨⟨rfl, rfl⟩, rfl⟩ := h; rfl
  · simp at h; rw [h]
  · rfl
  · rfl
  · cases h

theorem sameL_eq : ∀ {l m : List Value}, sameL l m = true → l = m
  | [], [], _ => rfl
  | [], _ :: _, h => by simp [sameL] at h
  | _ :: _, [], h => by simp [sameL] at h
  | a :: l, b :: m, h => by
    simp only [sameL, Bool.and_eq_true] at h
    rw [sameCell_eq h.1, sameL_eq h.2]

theorem sameV_eq {a b : Value} (h : sameV a b = true) : a = b := by
  unfold sameV at h
  split at h
  · rw [sameL_eq h]
  · rw [sameL_eq h]
  · exact sameCell_eq h

/-! ### the trace -/
/-- The trace of a region, place by place. -/
structure Tr (cf : CF) (dl : List DOp) (s0 : Env) (h0 : H) (ts : List TR) (s1 : Env) (h1 : H) (envAt : Nat → Env) : Prop where
  len : ts.length = dl.length
  e0 : envAt 0 = s0
  eN : envAt dl.length = s1
  step : ∀ k d t, dl[k]? = some d → ts[k]? = some t → t.env = (envAt k).keep d.slots ∧ wantedA d.o.guard t.env = some t.ran ∧ envAt (k + 1) = setD (envAt k) d.o.dst t.val ∧
    (t.ran = false → t.val = unset ∧ hAt ts h1 (k + 1) = t.hin) ∧ (t.ran = true → evAct cf d.o.act t.env t.hin = some (t.val, hAt ts h1 (k + 1)))
  h0 : hAt ts h1 0 = h0

theorem trace_tr : ∀ {dl : List DOp} {s0 : Env} {h0 : H} {ts : List TR} {s1 : Env} {h1 : H}, trace cf dl s0 h0 = some (ts, s1, h1) → ∃ envAt, Tr cf dl s0 h0 ts s1 h1 envAt
  | [], s0, h0, ts, s1, h1, e => by
    simp [trace] at e; obtain ⟨rfl, rfl, rfl⟩ := e
    exact ⟨fun _ => s0, ⟨rfl, rfl, rfl, fun k d t hk => by simp at hk, rfl⟩⟩
  | d :: ds, s0, h0, ts, s1, h1, e => by
    simp only [trace] at e
    -- one place ahead of a trace
    have key : ∀ (t0 : TR) (l : List TR) (hb : H), t0.env = s0.keep d.slots → t0.hin = h0 → wantedA d.o.guard t0.env = some t0.ran → (t0.ran = false → t0.val = unset ∧ hb = h0) → (t0.ran = true → evAct cf d.o.act t0.env h0 = some (t0.val, hb)) →
        trace cf ds (setD s0 d.o.dst t0.val) hb = some (l, s1, h1) → ∃ envAt, Tr cf (d :: ds) s0 h0 (t0 :: l) s1 h1 envAt := by
      intro t0 l hb g1 g2 g3 g4 g5 g6
      obtain ⟨envAt, q⟩ := trace_tr g6
      have hsh : ∀ k, hAt (t0 :: l) h1 (k + 1) = hAt l h1 k := fun k => by simp [hAt]
      refine ⟨fun k => match k with | 0 => s0 | k + 1 => envAt k, ⟨by simp [q.len], rfl, q.eN, ?_, by simp [hAt, g2]⟩⟩
      intro k d' t hk ht
      cases k with
      | zero =>
        simp at hk ht; subst hk; subst ht
        refine ⟨g1, g3, q.e0, ?_, ?_⟩
        · intro hr; rw [hsh, q.h0, g2]; exact g4 hr
        · intro hr; rw [hsh, q.h0, g2]; exact g5 hr
      | succ k =>
        simp only [List.getElem?_cons_succ] at hk ht
        obtain ⟨p1, p2, p3, p4, p5⟩ := q.step k d' t hk ht
        exact ⟨p1, p2, p3, by rw [hsh]; exact p4, by rw [hsh]; exact p5⟩
    split at e
    · cases e
    · rename_i hw
      split at e
      · rename_i l s2 h2 hl
        simp at e; obtain ⟨rfl, rfl, rfl⟩ := e
        exact key _ l h0 rfl rfl hw (fun _ => ⟨rfl, rfl⟩) (fun h => by cases h) hl
      · cases e
    · rename_i hw
      split at e
      · rename_i v hb hv
        split at e
        · rename_i l s2 h2 hl
          simp at e; obtain ⟨rfl, rfl, rfl⟩ := e
          exact key _ l hb rfl rfl hw (fun h => by cases h) (fun _ => hv) hl
        · cases e
      · cases e

/-- The slots at a place of the trace. -/
theorem Tr.get {dl : List DOp} {s0 : Env} {h0 : H} {ts : List TR} {s1 : Env} {h1 : H} {envAt : Nat → Env} (q : Tr cf dl s0 h0 ts s1 h1 envAt)
    (hdst : ∀ (k k' : Nat) (d d' : DOp) (t : Nat), dl[k]? = some d → dl[k']? = some d' → d.o.dst = some t → d'.o.dst = some t → k = k') (t : Nat) : ∀ x, x ≤ dl.length →
    (∀ j d tr, j < x → dl[j]? = some d → ts[j]? = some tr → d.o.dst = some t → (envAt x).get t = tr.val) ∧ ((∀ j d, j < x → dl[j]? = some d → d.o.dst ≠ some t) → (envAt x).get t = s0.get t)
  | 0, _ => ⟨fun j d tr hj => absurd hj (Nat.not_lt_zero _), fun _ => by rw [q.e0]⟩
  | x + 1, hx => by
    obtain ⟨ih1, ih2⟩ := q.get hdst t x (by omega)
    have hxl : x < dl.length := by omega
    have htl : x < ts.length := by rw [q.len]; exact hxl
    have hd : dl[x]? = some dl[x] := by simp [hxl]
    have ht : ts[x]? = some ts[x] := by simp [htl]
    obtain ⟨_, _, hs, _⟩ := q.step x _ _ hd ht
    rw [hs]
    have hset : (setD (envAt x) dl[x].o.dst ts[x].val).get t = if dl[x].o.dst = some t then ts[x].val else (envAt x).get t := by
      cases hdd : dl[x].o.dst with
      | none => simp [setD]
      | some u =>
        simp only [setD, Env.get]
        by_cases hut : u = t
        · subst hut; simp
        · have : (u == t) = false := by simpa using hut
          rw [this]; simp [hut]
    rw [hset]
    constructor
    · intro j d tr hj hdj htj hdt
      by_cases hjx : j = x
      · subst hjx
        rw [hd] at hdj; cases hdj
        rw [ht] at htj; cases htj
        rw [if_pos hdt]
      · rw [if_neg]
        · exact ih1 j d tr (by omega) hdj htj hdt
        · intro hc
          exact hjx (hdst j x d _ t hdj hd hdt hc)
    · intro hno
      rw [if_neg (hno x _ (by omega) hd)]
      exact ih2 fun j d hj hdj => hno j d (by omega) hdj


/-! ### any order -/
def isW (dl : List DOp) (k : Nat) : Prop := ∃ d, dl[k]? = some d ∧ clsAct d.o.act = .w
def isA (dl : List DOp) (k : Nat) : Prop := ∃ d, dl[k]? = some d ∧ clsAct d.o.act = .a

/-- What is asked of a region that draws its order. -/
structure DOk (P : Program) (n : Nat) (ops : Array Oper) (dl : List DOp) (wins : List (Nat × List Nat)) (bef : Nat → Nat → Prop) : Prop where
  len : dl.length = ops.size
  comp : ∀ (k : Nat) (d : DOp), dl[k]? = some d → ∃ o, ops[d.ix]? = some o ∧ compOper P n ops o = some d.o
  onto : ∀ i, i < ops.size → ∃ (k : Nat) (d : DOp), dl[k]? = some d ∧ d.ix = i
  inj : ∀ (k k' : Nat) (d d' : DOp), dl[k]? = some d → dl[k']? = some d' → d.ix = d'.ix → k = k'
  edge : ∀ (k : Nat) (d : DOp) (o : Oper), dl[k]? = some d → ops[d.ix]? = some o → ∀ e ∈ o.after.toList, Region.binds .any e = true → ∃ (j : Nat) (d' : DOp), j < k ∧ dl[j]? = some d' ∧ d'.ix = e.on
  befp : ∀ x j, bef x j → ∃ (d : DOp) (o : Oper) (e : Edge), dl[x]? = some d ∧ ops[d.ix]? = some o ∧ e ∈ o.after.toList ∧ Region.binds .any e = true ∧ ∃ (j1 : Nat) (d1 : DOp), dl[j1]? = some d1 ∧ d1.ix = e.on ∧ j1 < x ∧ (j1 = j ∨ bef j1 j)
  dst : ∀ (k k' : Nat) (d d' : DOp) (t : Nat), dl[k]? = some d → dl[k']? = some d' → d.o.dst = some t → d'.o.dst = some t → k = k'
  slot : ∀ (x : Nat) (d : DOp) (t : Nat), dl[x]? = some d → t ∈ d.slots → ∀ (j : Nat) (d' : DOp), dl[j]? = some d' → d'.o.dst = some t → j = x ∨ bef x j ∨ bef j x
  wtot : ∀ q1 q2, isW dl q1 → isW dl q2 → q1 < q2 → bef q2 q1
  alate : ∀ a q, isA dl a → isW dl q → q < a → bef a q
  win : ∀ (x : Nat) (d : DOp), dl[x]? = some d → clsAct d.o.act = .r → ∀ p, (p = dl.length ∨ isW dl p) → (∀ q, isW dl q → q < p → ¬ bef q x) → (∀ q, isW dl q → p ≤ q → ¬ bef x q) →
    (x ≤ p ∧ ∀ q, isW dl q → x ≤ q → p ≤ q) ∨ ∃ ps, (x, ps) ∈ wins ∧ p ∈ ps

theorem befp_lt {dl : List DOp} {wins : List (Nat × List Nat)} {ops : Array Oper} {bef : Nat → Nat → Prop} (K : DOk P n ops dl wins bef) : ∀ (x j : Nat), bef x j → j < x := by
  intro x
  induction x using Nat.strongRecOn with
  | _ x ih =>
    intro j hb
    obtain ⟨_, _, _, _, _, _, _, j1, _, _, _, hlt, hc⟩ := K.befp x j hb
    rcases hc with rfl | hc
    · exact hlt
    · exact Nat.lt_trans (ih j1 hlt j hc) hlt

/-- Closed: what has been carried out had all ahead of it carried out. -/
def Closed (ops : Array Oper) (listed : Array Bool) : Prop := ∀ i o, ops[i]? = some o → listed.getD i false = true → ∀ e ∈ o.after.toList, Region.binds .any e = true → listed.getD e.on false = true

def Free (ops : Array Oper) (listed : Array Bool) (i : Nat) : Prop := ∀ o, ops[i]? = some o → ∀ e ∈ o.after.toList, Region.binds .any e = true → listed.getD e.on false = true

section
variable {dl : List DOp} {wins : List (Nat × List Nat)} {ops : Array Oper} {bef : Nat → Nat → Prop} {listed : Array Bool}

def Lst (dl : List DOp) (listed : Array Bool) (k : Nat) : Prop := ∃ d, dl[k]? = some d ∧ listed.getD d.ix false = true

theorem bef_listed (K : DOk P n ops dl wins bef) (hcl : Closed ops listed) : ∀ (x j : Nat) (d : DOp), dl[x]? = some d → (Free ops listed d.ix) → bef x j → Lst dl listed j := by
  intro x
  induction x using Nat.strongRecOn with
  | _ x ih =>
    intro j d hd hf hb
    obtain ⟨d', o, e, h1, h2, h3, h4, j1, d1, h5, h6, hlt, hc⟩ := K.befp x j hb
    rw [hd] at h1; cases h1
    have hl := hf o h2 e h3 h4
    rw [← h6] at hl
    rcases hc with rfl | hc
    · exact ⟨d1, h5, hl⟩
    · obtain ⟨o1, ho1, _⟩ := K.comp j1 d1 h5
      exact ih j1 hlt j d1 h5 (fun o ho e he hb => hcl d1.ix o ho hl e he hb) hc

end

/-- How a drawn region stands in the midst. -/
structure Mid (P : Program) (n : Nat) (cf : CF) (ops : Array Oper) (dl : List DOp) (ρ0 : Ren) (h0 : H) (w0 : World) (s0 : Env) (a0 : Act) (ts : List TR) (h1 : H) (listed : Array Bool) (ρ : Ren) (p : Nat) (a : Act) (w : World) : Prop where
  sz : listed.size = ops.size
  cl : Closed ops listed
  ple : p ≤ dl.length
  pw : p < dl.length → isW dl p ∧ ¬ Lst dl listed p
  wl : ∀ q, isW dl q → (Lst dl listed q ↔ q < p)
  rel : Rel ρ (hAt ts h1 p) w
  ext : Ext ρ0 h0 w0 ρ (hAt ts h1 p) w
  tsz : a.tmps.size = n
  dfs : a.defers = a0.defers
  on : ∀ (k : Nat) (d : DOp) (tr : TR) (t : Nat), dl[k]? = some d → ts[k]? = some tr → Lst dl listed k → d.o.dst = some t → VR ρ tr.val (a.tmps.getD t undef)
  off : ∀ t, (∀ (k : Nat) (d : DOp), dl[k]? = some d → Lst dl listed k → d.o.dst ≠ some t) → VR ρ (s0.get t) (a.tmps.getD t undef)
  mono : ∀ j k, j ≤ k → k ≤ p → (hAt ts h1 j).size ≤ (hAt ts h1 k).size
  late : ∀ (k : Nat) (tr : TR), isA dl k → ts[k]? = some tr → tr.ran = true → ¬ Lst dl listed k → k < p → ρ tr.hin.size = none ∧ tr.hin.size < (hAt ts h1 p).size ∧ (hAt ts h1 p)[tr.hin.size]? = (hAt ts h1 (k + 1))[tr.hin.size]?

section
variable {dl : List DOp} {wins : List (Nat × List Nat)} {ops : Array Oper} {bef : Nat → Nat → Prop} {listed : Array Bool} {ρ0 : Ren} {h0 : H} {w0 : World} {s0 s1 : Env} {a0 : Act} {ts : List TR} {h1 : H} {p : Nat} {envAt : Nat → Env}

theorem hAt_of {k : Nat} {tr : TR} (h : ts[k]? = some tr) : hAt ts h1 k = tr.hin := by simp [hAt, h]

/-- The next write from a place on. -/
theorem next_w (dl : List DOp) : ∀ (f m : Nat), m + f = dl.length → ∃ p', m ≤ p' ∧ p' ≤ dl.length ∧ (p' < dl.length → isW dl p') ∧ ∀ q, isW dl q → m ≤ q → p' ≤ q
  | 0, m, hf => ⟨m, Nat.le_refl _, by omega, fun h => by omega, fun q _ hq => hq⟩
  | f + 1, m, hf => by
    by_cases hw : isW dl m
    · exact ⟨m, Nat.le_refl _, by omega, fun _ => hw, fun q _ hq => hq⟩
    · obtain ⟨p', g1, g2, g3, g4⟩ := next_w dl f (m + 1) (by omega)
      refine ⟨p', by omega, g2, g3, fun q hq hm => ?_⟩
      by_cases hqm : q = m
      · subst hqm; exact absurd hq hw
      · exact g4 q hq (by omega)

/-- Between two writes blocks are made, no more. -/
theorem quiet_step (q : Tr cf dl s0 h0 ts s1 h1 envAt) {k : Nat} (hk : k < dl.length) (hw : ¬ isW dl k) : hAt ts h1 (k + 1) = hAt ts h1 k ∨ ∃ x, hAt ts h1 (k + 1) = (hAt ts h1 k).push x := by
  have hd : dl[k]? = some dl[k] := by simp [hk]
  have htl : k < ts.length := by rw [q.len]; exact hk
  have ht : ts[k]? = some ts[k] := by simp [htl]
  obtain ⟨_, _, _, g4, g5⟩ := q.step k _ _ hd ht
  rw [hAt_of (h1 := h1) ht]
  cases hr : ts[k].ran with
  | false => exact .inl (g4 hr).2
  | true =>
    have e := g5 hr
    cases hact : dl[k].o.act with
    | call f args => exact absurd ⟨_, hd, by rw [hact]; rfl⟩ hw
    | op ao =>
      rw [hact] at e
      simp only [evAct] at e
      cases hc : clsOp ao with
      | n => exact .inl (evOp_n hc e).1
      | r => exact .inl (evOp_r hc e).1
      | a =>
        obtain ⟨x, _, _, h2, _⟩ := evOp_a hc e
        exact .inr ⟨x, h2⟩
      | w => exact absurd ⟨_, hd, by rw [hact]; exact hc⟩ hw

theorem quiet_chain (q : Tr cf dl s0 h0 ts s1 h1 envAt) {m : Nat} : ∀ (g j : Nat), j = m + g → j ≤ dl.length → (∀ k, isW dl k → m ≤ k → j ≤ k) →
    (∀ ρ w, Rel ρ (hAt ts h1 m) w → Rel ρ (hAt ts h1 j) w) ∧ (∀ ρ w, Ext ρ0 h0 w0 ρ (hAt ts h1 m) w → Ext ρ0 h0 w0 ρ (hAt ts h1 j) w) ∧ (hAt ts h1 m).size ≤ (hAt ts h1 j).size ∧ ∀ b, b < (hAt ts h1 m).size → (hAt ts h1 j)[b]? = (hAt ts h1 m)[b]?
  | 0, j, hj, _, _ => by subst hj; exact ⟨fun _ _ h => h, fun _ _ h => h, Nat.le_refl _, fun _ _ => rfl⟩
  | g + 1, j, hj, hjl, hno => by
    subst hj
    obtain ⟨i1, i2, i3, i4⟩ := quiet_chain q g (m + g) rfl (by omega) (fun k hk hm => by have := hno k hk hm; omega)
    have hw : ¬ isW dl (m + g) := fun hw => by have := hno _ hw (by omega); omega
    rcases quiet_step q (k := m + g) (by omega) hw with e | ⟨x, e⟩
    · rw [show m + (g + 1) = m + g + 1 by omega, e]
      exact ⟨i1, i2, i3, i4⟩
    · rw [show m + (g + 1) = m + g + 1 by omega, e]
      refine ⟨fun ρ w h => (i1 ρ w h).pushNone x, fun ρ w h => (i2 ρ w h).pushNone x, by simp; omega, fun b hb => ?_⟩
      rw [Array.getElem?_push, if_neg (by omega)]
      exact i4 b hb

/-- What is read does not turn between two writes. -/
theorem read_chain (q : Tr cf dl s0 h0 ts s1 h1 envAt) {ao : AOp} (hc : clsOp ao = .r) {s : Env} {v : Value} {m : Nat} (e : evOp ao s (hAt ts h1 m) = some (v, hAt ts h1 m)) : ∀ (g j : Nat), j = m + g → j ≤ dl.length → (∀ k, isW dl k → m ≤ k → j ≤ k) →
    evOp ao s (hAt ts h1 j) = some (v, hAt ts h1 j)
  | 0, j, hj, _, _ => by subst hj; exact e
  | g + 1, j, hj, hjl, hno => by
    subst hj
    have ih := read_chain q hc e g (m + g) rfl (by omega) (fun k hk hm => by have := hno k hk hm; omega)
    have hw : ¬ isW dl (m + g) := fun hw => by have := hno _ hw (by omega); omega
    rcases quiet_step q (k := m + g) (by omega) hw with e1 | ⟨x, e1⟩
    · rw [show m + (g + 1) = m + g + 1 by omega, e1]; exact ih
    · rw [show m + (g + 1) = m + g + 1 by omega, e1]; exact (evOp_r hc ih).2 x

theorem chks_get : ∀ {ws : List (Nat × List Nat)}, chks cf dl ts h1 ws = true → ∀ {x ps p}, (x, ps) ∈ ws → p ∈ ps → ∀ {d tr}, dl[x]? = some d → ts[x]? = some tr → chk1 cf d tr (hAt ts h1 p) = true
  | (y, qs) :: r, h, x, ps, p, hm, hp, d, tr, hd, ht => by
    simp only [chks, Bool.and_eq_true] at h
    rcases List.mem_cons.1 hm with e | hm
    · cases e
      rw [hd, ht] at h
      exact (List.all_eq_true.1 h.1) p hp
    · exact chks_get h.2 hm hp hd ht

theorem lst_set (K : DOk P n ops dl wins bef) (hsz : listed.size = ops.size) {x : Nat} {d : DOp} (hd : dl[x]? = some d) (k : Nat) : Lst dl (listed.setIfInBounds d.ix true) k ↔ (Lst dl listed k ∨ k = x) := by
  obtain ⟨o, ho, _⟩ := K.comp x d hd
  have hi : d.ix < listed.size := by rw [hsz]; exact (Array.getElem?_eq_some_iff.1 ho).1
  constructor
  · rintro ⟨d', h1, h2⟩
    by_cases e : d'.ix = d.ix
    · exact .inr (K.inj k x d' d h1 hd e)
    · refine .inl ⟨d', h1, ?_⟩
      rw [Array.getD_eq_getD_getElem?, Array.getElem?_setIfInBounds_ne (Ne.symm e)] at h2
      rw [Array.getD_eq_getD_getElem?]; exact h2
  · rintro (⟨d', h1, h2⟩ | rfl)
    · refine ⟨d', h1, ?_⟩
      by_cases e : d'.ix = d.ix
      · rw [e, Array.getD_eq_getD_getElem?, Array.getElem?_setIfInBounds_self_of_lt hi]; rfl
      · rw [Array.getD_eq_getD_getElem?, Array.getElem?_setIfInBounds_ne (Ne.symm e), ← Array.getD_eq_getD_getElem?]; exact h2
    · refine ⟨d, hd, ?_⟩
      rw [Array.getD_eq_getD_getElem?, Array.getElem?_setIfInBounds_self_of_lt hi]; rfl

theorem getD_set_le {i j : Nat} (h : listed.getD j false = true) : (listed.setIfInBounds i true).getD j false = true := by
  rw [Array.getD_eq_getD_getElem?] at h ⊢
  by_cases e : i = j
  · subst e
    have hi : i < listed.size := by
      apply Classical.byContradiction
      intro hn
      rw [Array.getElem?_eq_none (by omega)] at h
      cases h
    rw [Array.getElem?_setIfInBounds_self_of_lt hi]; rfl
  · rw [Array.getElem?_setIfInBounds_ne e]; exact h

theorem closed_set (hcl : Closed ops listed) {i : Nat} (hf : Free ops listed i) : Closed ops (listed.setIfInBounds i true) := by
  intro j o ho hj e he hb
  by_cases hij : i = j
  · subst hij
    exact getD_set_le (hf o ho e he hb)
  · rw [Array.getD_eq_getD_getElem?, Array.getElem?_setIfInBounds_ne hij, ← Array.getD_eq_getD_getElem?] at hj
    exact getD_set_le (hcl j o ho hj e he hb)

end

end Go.Ev
