/- Ev5: each compact operation is the model's. Part three: addresses, reads. -/
import Derived.Test.YtefbpobeclkbhaaEv4
namespace Go.Ev
variable {P : Program} {ρ : Ren} {h : H} {a : Act} {w : World} {s : Env} {n : Nat}

theorem good_un (o : Oper) (op : UnOp) (t : TypeId) (x : Operand) (ho : o.op = .unOp op t x) (r : Rel ρ h w) (he : EnvRel ρ n s a.tmps) {v : Value} (e : aUn op (aeval s x) = some v) : Good P o ρ h a w v h := by
  have h1 := aeval_sound he x
  generalize aeval s x = u at *
  unfold aUn at e
  split at e <;> simp at e <;> subst e
  · have e1 := h1.int_inv
    exact .same r (.int _ _) (by simp [execOp, ho, e1, Op.unary, Op.intArith])
  · have e1 := h1.bool_inv
    exact .same r (.bool _) (by simp [execOp, ho, e1, Op.unary])

theorem good_convInt (o : Oper) (src dst : TypeId) (x : Operand) (ho : o.op = .convert src dst x) {d : TypeDesc} (hs : P.underlying src = some d) {k : IntKind} (hd : P.underlying dst = some (.int k)) (r : Rel ρ h w) (he : EnvRel ρ n s a.tmps)
    {q : IntKind} {m : Int} (e : aeval s x = .int q m) : Good P o ρ h a w (.int k (k.wrap m)) h := by
  have h1 := aeval_sound he x
  rw [e] at h1
  have e1 := h1.int_inv
  refine .same r (.int _ _) ?_
  cases d <;> simp [execOp, ho, e1, convert, run_underlying hs, run_underlying hd, Conv.intToInt]

theorem good_convSame (o : Oper) (src dst : TypeId) (x : Operand) (ho : o.op = .convert src dst x) {d : TypeDesc} (hs : P.underlying src = some d) (hd : P.underlying dst = some .string) (hds : d = .string) (r : Rel ρ h w) (he : EnvRel ρ n s a.tmps)
    {t : ByteArray} (e : aeval s x = .string t) : Good P o ρ h a w (.string t) h := by
  have h1 := aeval_sound he x
  rw [e] at h1
  have e1 := h1.string_inv
  subst hds
  exact .same r (.string _) (by simp [execOp, ho, e1, convert, run_underlying hs, run_underlying hd])

theorem good_func (o : Oper) (fn : Fn) (fs cs : Array Operand) (ho : o.op = .makeFunc fn fs cs) (r : Rel ρ h w) (he : EnvRel ρ n s a.tmps) :
    Good P o ρ h a w (.func fn ⟨fs.toList.map (aeval s)⟩ ⟨cs.toList.map (aeval s)⟩) h := by
  refine .same r (.func (aeval_map he fs.toList) (aeval_map he cs.toList)) ?_
  simp only [execOp, ho, Instr.makeFunc, Sem.run_bind, Sem.run_pure, Result.andThen_ok]
  congr 2
  congr 1 <;> (apply Array.ext'; simp)

theorem good_extract (o : Oper) (x : Operand) (i : Nat) (ho : o.op = .extract x i) (r : Rel ρ h w) (he : EnvRel ρ n s a.tmps) {l : List Value} (e : aeval s x = .tuple ⟨l⟩) {v : Value} (hv : l[i]? = some v) : Good P o ρ h a w v h := by
  have h1 := aeval_sound he x
  rw [e] at h1
  obtain ⟨l', e1, g⟩ := h1.tuple_inv
  obtain ⟨v', g1, g2⟩ := g.get hv
  exact .same r g2 (by simp [execOp, ho, e1, Instr.extract, g1])

theorem good_fieldCell (o : Oper) (t : TypeId) (x : Operand) (i : Nat) (ho : o.op = .field t x i) {fs : Array Field} (ht : P.underlying t = some (.struct fs)) {f : Field} (hf : fs[i]? = some f) (hb : isRowB P f.type = some false) (r : Rel ρ h w) (he : EnvRel ρ n s a.tmps)
    {l : List Value} (e : aeval s x = .agg ⟨l⟩) {v : Value} (hv : l[f.offset]? = some v) : Good P o ρ h a w v h := by
  have h1 := aeval_sound he x
  rw [e] at h1
  obtain ⟨l', e1, g⟩ := h1.agg_inv
  obtain ⟨v', g1, g2⟩ := g.get hv
  exact .same r g2 (by simp [execOp, ho, e1, Instr.field, run_underlying ht, hf, asAgg, run_part_cell (P := P) (w := w) hb l' _ g1])

theorem good_fieldRow (o : Oper) (t : TypeId) (x : Operand) (i : Nat) (ho : o.op = .field t x i) {fs : Array Field} (ht : P.underlying t = some (.struct fs)) {f : Field} (hf : fs[i]? = some f) (hb : isRowB P f.type = some true) {m : Nat} (hm : szOf P f.type = some m)
    (r : Rel ρ h w) (he : EnvRel ρ n s a.tmps) {l : List Value} (e : aeval s x = .agg ⟨l⟩) : Good P o ρ h a w (.agg ⟨(l.drop f.offset).take m⟩) h := by
  have h1 := aeval_sound he x
  rw [e] at h1
  obtain ⟨l', e1, g⟩ := h1.agg_inv
  exact .same r (.agg ((g.drop f.offset).take m)) (by simp [execOp, ho, e1, Instr.field, run_underlying ht, hf, asAgg, run_part_row (P := P) (w := w) hb hm l'])

theorem good_indexStr (o : Oper) (t : TypeId) (x i : Operand) (ho : o.op = .index t x i) (ht : P.underlying t = some .string) (r : Rel ρ h w) (he : EnvRel ρ n s a.tmps) {b : ByteArray} (e : aeval s x = .string b) {k : IntKind} {j : Int} (ei : aeval s i = .int k j)
    (hj : 0 ≤ j) {c : UInt8} (hc : b.data[j.toNat]? = some c) : Good P o ρ h a w (.int .u8 c.toNat) h := by
  have h1 := aeval_sound he x
  rw [e] at h1
  have h2 := aeval_sound he i
  rw [ei] at h2
  have e1 := h1.string_inv
  have e2 := h2.int_inv
  have hc' : b[j.toNat]? = some c := by
    have hlt : j.toNat < b.size := (Array.getElem?_eq_some_iff.1 hc).1
    rw [getElem?_pos b j.toNat hlt]
    have := (Array.getElem?_eq_some_iff.1 hc).2
    rw [← this]; rfl
  exact .same r (.int _ _) (by simp [execOp, ho, e1, e2, Instr.index, asIntOf, run_underlying ht, hj, hc'])

theorem good_lenStr (o : Oper) (x : Operand) (t : TypeId) (ho : o.op = .call { callee := .builtin .len, args := #[x], argTypes := #[t] }) (ht : P.underlying t = some .string) (r : Rel ρ h w) (he : EnvRel ρ n s a.tmps) {b : ByteArray} (e : aeval s x = .string b) :
    Good P o ρ h a w (.int .i64 b.size) h := by
  have h1 := aeval_sound he x
  rw [e] at h1
  have e1 := h1.string_inv
  exact .same r (.int _ _) (by simp [execOp, ho, e1, resolve, invoke, builtin, Builtin.len_, run_underlying ht, goInt])

theorem good_lenSlice (o : Oper) (x : Operand) (t el : TypeId) (ho : o.op = .call { callee := .builtin .len, args := #[x], argTypes := #[t] }) (ht : P.underlying t = some (.slice el)) (r : Rel ρ h w) (he : EnvRel ρ n s a.tmps) {v : Value} {h' : H} (e : evOp (.lenSlice x) s h = some (v, h')) :
    Good P o ρ h a w v h' := by
  have h1 := aeval_sound he x
  simp only [evOp] at e
  split at e
  · rename_i hb
    rw [hb] at h1
    simp at e; obtain ⟨rfl, rfl⟩ := e
    obtain ⟨_, _, e1⟩ := h1.snil_inv
    exact .same r (.int _ _) (by simp [execOp, ho, e1, resolve, invoke, builtin, Builtin.len_, run_underlying ht, goInt])
  · rename_i ad m c hb
    rw [hb] at h1
    simp at e; obtain ⟨rfl, rfl⟩ := e
    obtain ⟨v', hv'⟩ : ∃ v', v' = a.eval x := ⟨_, rfl⟩
    rw [← hv'] at h1
    cases h1 <;> exact .same r (.int _ _) (by simp [execOp, ho, ← hv', resolve, invoke, builtin, Builtin.len_, run_underlying ht, goInt])
  · cases e

theorem good_lenMap (o : Oper) (x : Operand) (t k q : TypeId) (ho : o.op = .call { callee := .builtin .len, args := #[x], argTypes := #[t] }) (ht : P.underlying t = some (.map k q)) (r : Rel ρ h w) (he : EnvRel ρ n s a.tmps) {m : List (Value × Value)} (e : entriesOf h (aeval s x) = some m) :
    Good P o ρ h a w (.int .i64 m.length) h := by
  have h1 := aeval_sound he x
  unfold entriesOf at e
  split at e
  · rename_i hb
    rw [hb] at h1
    simp at e; subst e
    have e1 := h1.mnil_inv
    exact .same r (.int _ _) (by simp [execOp, ho, e1, resolve, invoke, builtin, Builtin.len_, run_underlying ht, goInt])
  · rename_i b hb
    rw [hb] at h1
    obtain ⟨i, hi, e1⟩ := h1.map_inv
    split at e
    · rename_i es lv hx
      simp at e; subst e
      obtain ⟨es', clock, g1, g2, _⟩ := r.blk b i _ hi hx
      have hl := g2.length
      simp at hl
      exact .same r (.int _ _) (by simp [execOp, ho, e1, resolve, invoke, builtin, Builtin.len_, run_underlying ht, goInt, getObj, Sem.run, g1, hl])
    · cases e
  · cases e

theorem good_minmax (o : Oper) (x y : Operand) (ts : Array TypeId) (isMax : Bool) (ho : o.op = .call { callee := .builtin (if isMax then .max else .min), args := #[x, y], argTypes := ts }) (r : Rel ρ h w) (he : EnvRel ρ n s a.tmps)
    {k : IntKind} {i j : Int} (ex : aeval s x = .int k i) (ey : aeval s y = .int k j) : Good P o ρ h a w (.int k (if isMax then (if j > i then j else i) else (if j < i then j else i))) h := by
  have h1 := aeval_sound he x
  rw [ex] at h1
  have h2 := aeval_sound he y
  rw [ey] at h2
  have e1 := h1.int_inv
  have e2 := h2.int_inv
  refine .same r (.int _ _) ?_
  cases isMax <;> simp [execOp, ho, e1, e2, resolve, invoke, builtin, Builtin.max_, Builtin.min_, Builtin.max2, Builtin.min2]

theorem good_nilCheck (o : Oper) (x : Operand) (ho : o.op = .nilCheck x) (r : Rel ρ h w) (he : EnvRel ρ n s a.tmps) {v : Value} {h' : H} (e : evOp (.nilCheck x) s h = some (v, h')) : Good P o ρ h a w v h' := by
  have h1 := aeval_sound he x
  simp only [evOp] at e
  split at e
  · rename_i ad hb
    rw [hb] at h1
    simp at e; obtain ⟨rfl, rfl⟩ := e
    obtain ⟨v', hv'⟩ : ∃ v', v' = a.eval x := ⟨_, rfl⟩
    rw [← hv'] at h1
    have h1' := h1
    cases h1
    exact .same r h1' (by simp [execOp, ho, ← hv'])
  · rename_i f fs cs hb
    rw [hb] at h1
    simp at e; obtain ⟨rfl, rfl⟩ := e
    obtain ⟨v', hv'⟩ : ∃ v', v' = a.eval x := ⟨_, rfl⟩
    rw [← hv'] at h1
    have h1' := h1
    cases h1
    exact .same r h1' (by simp [execOp, ho, ← hv'])
  · cases e

theorem good_fieldAddr (o : Oper) (t : TypeId) (x : Operand) (i : Nat) (ho : o.op = .fieldAddr t x i) {fs : Array Field} (ht : P.underlying t = some (.struct fs)) {f : Field} (hf : fs[i]? = some f) {m : Nat} (hm : szOf P f.type = some (m + 1))
    (r : Rel ρ h w) (he : EnvRel ρ n s a.tmps) {b q : Nat} (e : aeval s x = .pointer (some ⟨b, q, none⟩)) : Good P o ρ h a w (.pointer (some ⟨b, q + f.offset, none⟩)) h := by
  have h1 := aeval_sound he x
  rw [e] at h1
  obtain ⟨i', hi, e1⟩ := h1.ptr_inv
  refine .same (v' := .pointer (some ⟨i'.blk, q + f.offset + i'.sh, none⟩)) r (.ptr hi) ?_
  simp only [execOp, ho, e1, Instr.fieldAt, Sem.run_bind, run_underlying ht, Result.andThen_ok, hf, Instr.sureAddr, Sem.run_pure, fieldPlace, run_sizeOf' (w := w) hm]
  simp [Addr.add_mid]; omega

theorem good_indexAddr (o : Oper) (t : TypeId) (x i : Operand) (ho : o.op = .indexAddr t x i) {el : TypeId} (ht : P.underlying t = some (.slice el)) {sz : Nat} (hs : szOf P el = some sz) (r : Rel ρ h w) (he : EnvRel ρ n s a.tmps)
    {b q m c : Nat} (e : aeval s x = .slice (some ⟨b, q, none⟩) m c) {k : IntKind} {j : Int} (ei : aeval s i = .int k j) (h0 : 0 ≤ j) (hj : j < m) : Good P o ρ h a w (.pointer (some ⟨b, q + j.toNat * sz, none⟩)) h := by
  have h1 := aeval_sound he x
  rw [e] at h1
  have h2 := aeval_sound he i
  rw [ei] at h2
  obtain ⟨i', o', c', hi, e1, g1, g2, g3, g4⟩ := h1.slice_inv
  have e2 := h2.int_inv
  have ho' : o' = q + i'.sh := by rcases g4 with g4 | g4 <;> omega
  subst ho'
  refine .same (v' := .pointer (some ⟨i'.blk, q + j.toNat * sz + i'.sh, none⟩)) r (.ptr hi) ?_
  simp only [execOp, ho, e1, e2, Instr.indexAt, Sem.run_bind, asIntOf, Sem.run_pure, Result.andThen_ok, run_underlying ht]
  simp [h0, hj, Addr.add_mid, run_sizeOf' (w := w) hs]; omega

theorem good_load1 (o : Oper) (t : TypeId) (x : Operand) (ho : o.op = .load t x) (hb : isRowB P t = some false) (r : Rel ρ h w) (he : EnvRel ρ n s a.tmps) {b q : Nat} (e : aeval s x = .pointer (some ⟨b, q, none⟩))
    {v : Value} (hr : (rd h b q 1).bind one? = some v) : Good P o ρ h a w v h := by
  have h1 := aeval_sound he x
  rw [e] at h1
  obtain ⟨i, hi, e1⟩ := h1.ptr_inv
  cases hl : rd h b q 1 with
  | none => rw [hl] at hr; cases hr
  | some l =>
    rw [hl] at hr
    obtain ⟨g1, l', g2, g3⟩ := rd_rel r hi hl
    obtain ⟨u, rfl⟩ := single g1
    simp [one?] at hr; subst hr
    cases g2 with
    | cons hv ht =>
      rename_i v' _
      have hc := g3 0 v' (by simp)
      refine .same r hv ?_
      simp only [execOp, ho, e1, Instr.loadAt, Instr.sureAddr, loadVar, Sem.run_bind, Sem.run_pure, Result.andThen_ok, run_isAgg (w := w) hb]
      simp only [Nat.add_zero] at hc
      simp [load, Sem.run, hc]

theorem good_loadN (o : Oper) (t : TypeId) (x : Operand) (ho : o.op = .load t x) (hb : isRowB P t = some true) {m : Nat} (hm : szOf P t = some m) (r : Rel ρ h w) (he : EnvRel ρ n s a.tmps) {b q : Nat} (e : aeval s x = .pointer (some ⟨b, q, none⟩))
    {l : List Value} (hl : rd h b q m = some l) : Good P o ρ h a w (.agg ⟨l⟩) h := by
  have h1 := aeval_sound he x
  rw [e] at h1
  obtain ⟨i, hi, e1⟩ := h1.ptr_inv
  obtain ⟨g1, l', g2, g3⟩ := rd_rel r hi hl
  have hlen : l'.length = m := by rw [← g2.length]; exact g1
  refine .same r (.agg g2) ?_
  have hld : (loadCells ⟨i.blk, q + i.sh, none⟩ m).run P w = .ok l'.toArray w := by
    rw [← hlen]; exact run_loadCells_list w _ l' (fun j v hv => by rw [Addr.add_mid]; exact g3 j v hv)
  simp only [execOp, ho, e1, Instr.loadAt, Instr.sureAddr, loadVar, Sem.run_bind, Sem.run_pure, Result.andThen_ok, run_isAgg (w := w) hb, if_true, run_sizeOf' (w := w) hm, hld]

/-! ### slices of slices and texts -/
theorem run_sliceBound {x : Value} {k : IntKind} {j : Int} (e : x = .int k j) {y : Nat} (h0 : 0 ≤ j) (h1 : j ≤ y) (c : BoundsCode) : (Instr.sliceBound x y c).run P w = .ok j.toNat w := by
  subst e
  simp [Instr.sliceBound, asIntOf, h0, h1]

/-- A bound of a slice expression. -/
def BoundOf (x : Option Value) (d q : Nat) : Prop := (x = none ∧ q = d) ∨ ∃ k j, x = some (.int k j) ∧ 0 ≤ j ∧ j.toNat = q

theorem optInt_sound (he : EnvRel ρ n s a.tmps) {x : Option Operand} {d q : Nat} (e : optInt (x.map (aeval s)) d = some q) : BoundOf (x.map a.eval) d q := by
  cases x with
  | none => simp [optInt] at e; exact .inl ⟨rfl, e.symm⟩
  | some x =>
    simp only [Option.map_some] at e
    have h1 := aeval_sound he x
    cases hx : aeval s x <;> rw [hx] at e h1 <;> simp [optInt] at e
    rename_i k j
    exact .inr ⟨k, j, by simp [h1.int_inv], e.1, e.2⟩

theorem run_sliceBounds (isSlice : Bool) {len cap p q : Nat} {lo hi : Option Value} (hl : BoundOf lo 0 p) (hh : BoundOf hi len q) (h1 : p ≤ q) (h2 : q ≤ cap) :
    (Instr.sliceBounds isSlice len cap lo hi none).run P w = .ok (p, q, cap) w := by
  rcases hh with ⟨rfl, rfl⟩ | ⟨k, j, rfl, g1, g2⟩ <;> rcases hl with ⟨rfl, rfl⟩ | ⟨k2, j2, rfl, g3, g4⟩
  · simp [Instr.sliceBounds]
  · have hb := fun c => run_sliceBound (P := P) (w := w) (x := .int k2 j2) rfl g3 (y := q) (by omega) c
    simp [Instr.sliceBounds, hb, g4]
  · have ha := fun c => run_sliceBound (P := P) (w := w) (x := .int k j) rfl g1 (y := cap) (by omega) c
    simp [Instr.sliceBounds, ha, g2]
  · have ha := fun c => run_sliceBound (P := P) (w := w) (x := .int k j) rfl g1 (y := cap) (by omega) c
    have hb := fun c => run_sliceBound (P := P) (w := w) (x := .int k2 j2) rfl g3 (y := q) (by omega) c
    simp [Instr.sliceBounds, ha, hb, g2, g4]

theorem good_slice (o : Oper) (t : TypeId) (x : Operand) (lo hi : Option Operand) (ho : o.op = .slice t x lo hi none) {el : TypeId} (ht : P.underlying t = some (.slice el)) {sz : Nat} (hs : szOf P el = some sz) (r : Rel ρ h w) (he : EnvRel ρ n s a.tmps)
    {b q m c : Nat} (e : aeval s x = .slice (some ⟨b, q, none⟩) m c) {p z : Nat} (ez : optInt (hi.map (aeval s)) m = some z) (ep : optInt (lo.map (aeval s)) 0 = some p) (h1 : p ≤ z) (h2 : z ≤ c) :
    Good P o ρ h a w (.slice (some ⟨b, q + p * sz, none⟩) (z - p) (c - p)) h := by
  have hx := aeval_sound he x
  rw [e] at hx
  obtain ⟨i', o', c', hi', e1, g1, g2, g3, g4⟩ := hx.slice_inv
  have hb := run_sliceBounds (P := P) (w := w) true (optInt_sound he ep) (optInt_sound he ez) h1 (Nat.le_trans h2 g2)
  have hcc : (c' - p) - (c - p) = c' - c := by omega
  have hrun : ∀ ad, ad = (if c' = p then some (⟨i'.blk, o', none⟩ : Addr) else some (⟨i'.blk, o' + p * sz, none⟩ : Addr)) → (execOp a.eval o).run P w = .ok (.value (.slice ad (z - p) (c' - p))) w := by
    intro ad had
    simp only [execOp, ho, e1, Instr.sliceAt, Instr.slice, Sem.run_bind, run_underlying ht, Result.andThen_ok, Option.map_none, hb, run_sizeOf' (w := w) hs, Sem.run_pure]
    rw [had]
    by_cases hc : c' = p
    · simp [hc]
    · simp [hc, Addr.add_mid]
  refine .same r ?_ (hrun _ rfl)
  by_cases hc : c' = p
  · rw [if_pos hc]
    exact .slice hi' (by omega) (by omega) (by rw [hcc]; exact g3) (.inr (by omega))
  · rw [if_neg hc]
    exact .slice hi' (by omega) (by omega) (by rw [hcc]; exact g3) (by rcases g4 with g4 | g4 <;> omega)

theorem good_sliceNil (o : Oper) (t : TypeId) (x : Operand) (lo hi : Option Operand) (ho : o.op = .slice t x lo hi none) {el : TypeId} (ht : P.underlying t = some (.slice el)) {sz : Nat} (hs : szOf P el = some sz) (r : Rel ρ h w) (he : EnvRel ρ n s a.tmps)
    (e : aeval s x = .slice none 0 0) {p z : Nat} (ez : optInt (hi.map (aeval s)) 0 = some z) (ep : optInt (lo.map (aeval s)) 0 = some p) (h1 : p ≤ z) (h2 : z ≤ 0) :
    Good P o ρ h a w (.slice none 0 0) h := by
  have hx := aeval_sound he x
  rw [e] at hx
  obtain ⟨_, _, e1⟩ := hx.snil_inv
  obtain rfl : z = 0 := by omega
  obtain rfl : p = 0 := by omega
  have hb := run_sliceBounds (P := P) (w := w) true (cap := 0) (optInt_sound he ep) (optInt_sound he ez) (Nat.le_refl _) (Nat.le_refl _)
  refine .same r .snil ?_
  simp only [execOp, ho, e1, Instr.sliceAt, Instr.slice, Sem.run_bind, run_underlying ht, Result.andThen_ok, Option.map_none, hb, run_sizeOf' (w := w) hs, Sem.run_pure]
  simp

theorem good_sliceStr (o : Oper) (t : TypeId) (x : Operand) (lo hi : Option Operand) (ho : o.op = .slice t x lo hi none) (ht : P.underlying t = some .string) (r : Rel ρ h w) (he : EnvRel ρ n s a.tmps)
    {b : ByteArray} (e : aeval s x = .string b) {p z : Nat} (ez : optInt (hi.map (aeval s)) b.size = some z) (ep : optInt (lo.map (aeval s)) 0 = some p) (h1 : p ≤ z) (h2 : z ≤ b.size) :
    Good P o ρ h a w (.string (b.extract p z)) h := by
  have hx := aeval_sound he x
  rw [e] at hx
  have e1 := hx.string_inv
  have hb := run_sliceBounds (P := P) (w := w) false (optInt_sound he ep) (optInt_sound he ez) h1 h2
  refine .same r (.string _) ?_
  simp only [execOp, ho, e1, Instr.sliceAt, Instr.slice, Sem.run_bind, run_underlying ht, Result.andThen_ok, Option.map_none, Option.isSome_none, Sem.run_pure]
  simp [hb]

end Go.Ev
