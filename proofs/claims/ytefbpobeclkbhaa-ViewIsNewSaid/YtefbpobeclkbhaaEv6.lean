/- Ev6: each compact operation is the model's. Part four: what makes and writes memory. -/
import Derived.Test.YtefbpobeclkbhaaEv5
namespace Go.Ev
variable {P : Program} {ρ : Ren} {h : H} {a : Act} {w : World} {s : Env} {n : Nat}

def isKonst : Value → Bool
  | .bool _ | .int _ _ | .string _ | .pointer none | .slice none 0 0 | .map none | .nilFunc | .nilIface => true
  | _ => false

theorem VR.konst {v : Value} (h : isKonst v = true) : VR ρ v v := by
  unfold isKonst at h
  split at h <;> first | constructor | cases h

theorem VRs.konst : ∀ {l : List Value}, l.all isKonst = true → VRs ρ l l
  | [], _ => .nil
  | v :: l, h => by
    rw [List.all_cons, Bool.and_eq_true] at h
    exact .cons (.konst h.1) (.konst h.2)

/-- The zero cells of a type. -/
def zeroC (P : Program) (t : TypeId) : Option (List Value) :=
  match P.info? t with
  | some i => match i.zero with
    | some z => if z.cells.toList.all isKonst && (z.cells.size == i.size) then some z.cells.toList else none
    | none => none
  | none => none

theorem zeroC_run {t : TypeId} {l : List Value} (e : zeroC P t = some l) : ∃ z, (∀ w, (zeroValue t).run P w = .ok z w) ∧ z.cells.toList = l ∧ l.all isKonst = true ∧ szOf P t = some l.length := by
  unfold zeroC at e
  cases hi : P.info? t with
  | none => rw [hi] at e; cases e
  | some i =>
    rw [hi] at e
    cases hz : i.zero with
    | none => simp [hz] at e
    | some z =>
      simp only [hz] at e
      split at e
      · rename_i hc
        cases e
        simp at hc
        refine ⟨z, fun w => by simp [zeroValue, typeInfo, hi, hz], rfl, by simpa using hc.1, by simp [szOf, hi, hc.2]⟩
      · cases e

theorem toList_inj {α : Type} {x : Array α} {l : List α} (h : x.toList = l) : x = ⟨l⟩ := by cases x; simp at h; subst h; rfl

theorem good_alloc (o : Oper) (t : TypeId) (ho : o.op = .alloc t) {z : List Value} (hz : zeroC P t = some z) (r : Rel ρ h w) : Good P o ρ h a w (.pointer (some ⟨h.size, 0, none⟩)) (newRow h z 0 []) := by
  obtain ⟨zv, g1, g2, g3, _⟩ := zeroC_run hz
  have e2 := toList_inj g2
  obtain ⟨r1, r2⟩ := row_rel r z zv.cells t 0 true [] (by simp) 0 (by rw [g2]; simpa using VRs.konst g3) (by rw [e2]; simp) _ rfl
  refine ⟨.pointer (some ⟨w.heap.size, 0, none⟩), _, w.alloc (.cells zv.cells t), .inl ?_, ?_, r1, r2⟩
  · simp [execOp, ho, Instr.alloc, g1, newVar, Go.newRow, newObj, Sem.run]
  · exact .ptr (i := ⟨w.heap.size, 0, 0, 0⟩) (by simp [Ren.put])

theorem good_box (o : Oper) (t : TypeId) (x : Operand) (ho : o.op = .box t x) (r : Rel ρ h w) (he : EnvRel ρ n s a.tmps) {l : List Value} (hl : vcells (aeval s x) = some l) :
    Good P o ρ h a w (.pointer (some ⟨h.size, 0, none⟩)) (newRow h l 0 []) := by
  have h1 := (aeval_sound he x).cells hl
  obtain ⟨r1, r2⟩ := row_rel r l (a.eval x).cells t 0 true [] (by simp) 0 (by rw [List.take_of_length_le (by rw [h1.length]; exact Nat.le_refl _)]; exact h1) (by rw [h1.length]; simp) _ rfl
  refine ⟨.pointer (some ⟨w.heap.size, 0, none⟩), _, w.alloc (.cells (a.eval x).cells t), .inl ?_, ?_, r1, r2⟩
  · simp [execOp, ho, Instr.box, newVar, Go.newRow, newObj, Sem.run]
  · exact .ptr (i := ⟨w.heap.size, 0, 0, 0⟩) (by simp [Ren.put])

theorem good_mkMap (o : Oper) (t : TypeId) (ho : o.op = .makeMap t none) (r : Rel ρ h w) : Good P o ρ h a w (.map (some h.size)) (h.push (.map [] true)) := by
  have hnew := heap_alloc_new w (.map #[] 0)
  obtain ⟨r1, r2⟩ := push_rel r (.map #[] 0) (.map [] true) ⟨w.heap.size, 0, 0, 0⟩ rfl ⟨#[], 0, hnew, .nil, .nil, by simp, by simp⟩ (by simp [Blk.ancs])
  refine ⟨.map (some w.heap.size), _, w.alloc (.map #[] 0), .inl ?_, ?_, r1, r2⟩
  · simp [execOp, ho, Instr.makeMap, newObj, Sem.run]
  · exact .map (i := ⟨w.heap.size, 0, 0, 0⟩) (by simp [Ren.put])

theorem good_store (o : Oper) (t : TypeId) (x y : Operand) (ho : o.op = .store t x y) {m : Nat} (hm : szOf P t = some m) (r : Rel ρ h w) (he : EnvRel ρ n s a.tmps) {b q : Nat} (e : aeval s x = .pointer (some ⟨b, q, none⟩))
    {l : List Value} (hl : vcells (aeval s y) = some l) (hlen : l.length = m) {h' : H} (hw : wr h b q l = some h') : Good P o ρ h a w junk h' := by
  have h1 := aeval_sound he x
  rw [e] at h1
  obtain ⟨i, hi, e1⟩ := h1.ptr_inv
  have h2 := (aeval_sound he y).cells hl
  obtain ⟨g1, g2, g3, g4, g5⟩ := wr_rel r hi hw h2
  have hst := run_storeCells_cells (P := P) i.blk (q + i.sh) (a.eval y).cells.toList 0 w (by simpa using g1) (by simpa using g2) g3
  simp only [Nat.add_zero] at hst
  have hsz : (a.eval y).cells.size = m := by rw [← hlen, h2.length]; simp
  refine ⟨undef, ρ, _, .inr ⟨?_, rfl⟩, .junk _, g4, g5⟩
  simp only [execOp, ho, e1, Instr.storeAt, Instr.sureAddr, storeVar, Sem.run_bind, Sem.run_pure, Result.andThen_ok, run_sizeOf' (w := w) hm]
  simp [hsz, hst]

/-! ### literals -/
theorem foldl_splice (off : Nat) : ∀ (vs : List Value) (k : Nat) (cells : Array Value), off + k + vs.length ≤ cells.size →
    ((vs.zipIdx k).foldl (fun cs (c, j) => cs.setIfInBounds (off + j) c) cells).toList = cells.toList.take (off + k) ++ vs ++ cells.toList.drop (off + k + vs.length)
  | [], k, cells, _ => by simp
  | v :: vs, k, cells, hle => by
    simp only [List.length_cons] at hle
    rw [List.zipIdx_cons, List.foldl_cons, foldl_splice off vs (k + 1) _ (by simp; omega)]
    have hk : off + k < cells.toList.length := by simp; omega
    simp only [Array.toList_setIfInBounds]
    rw [show off + (k + 1) = (off + k) + 1 by omega, List.take_succ_eq_append_getElem (by simpa using hk)]
    have hd : List.drop (off + k + 1 + vs.length) (cells.toList.set (off + k) v) = List.drop (off + k + (v :: vs).length) cells.toList := by
      rw [List.drop_set, if_pos (by omega)]
      congr 1; simp; omega
    rw [hd]
    simp only [List.take_set]
    rw [List.set_eq_of_length_le (by simp; omega)]
    simp

theorem fill_sound {place : Nat → Option (Nat × Nat)} : ∀ {l : List (Nat × List Value)} {ps : List (Nat × Value)} {cs c : List Value} {cs' : Array Value},
    fillL cs l = some c → VRs ρ cs cs'.toList → l.length = ps.length →
    (∀ (k : Nat) (p : Nat × List Value) (q : Nat × Value), l[k]? = some p → ps[k]? = some q → place q.1 = some (p.1, p.2.length) ∧ VRs ρ p.2 q.2.cells.toList) →
    ∃ c' : Array Value, Instr.fill place cs' ps = some c' ∧ VRs ρ c c'.toList
  | [], [], cs, c, cs', e, hv, _, _ => by simp [fillL] at e; subst e; exact ⟨cs', rfl, hv⟩
  | [], _ :: _, _, _, _, _, _, hl, _ => by simp at hl
  | _ :: _, [], _, _, _, _, _, hl, _ => by simp at hl
  | (o, vs) :: l, (i, v) :: ps, cs, c, cs', e, hv, hl, hp => by
    unfold fillL at e
    split at e
    · rename_i hle
      obtain ⟨g1, g2⟩ := hp 0 (o, vs) (i, v) rfl rfl
      have hvl := g2.length
      have hcl := hv.length
      simp only at g1 g2 hvl
      simp only [Array.length_toList] at hvl hcl
      unfold Instr.fill
      rw [g1]
      simp only
      have hcond : ¬ (v.cells.size ≠ vs.length || decide (o + v.cells.size > cs'.size)) = true := by simp; omega
      rw [if_neg (by simpa using hcond)]
      have hsp := foldl_splice o v.cells.toList 0 cs' (by simp; omega)
      have harr : (v.cells.zipIdx.foldl (fun cs (x : Value × Nat) => cs.setIfInBounds (o + x.2) x.1) cs').toList = cs'.toList.take o ++ v.cells.toList ++ cs'.toList.drop (o + v.cells.size) := by
        rw [← Array.foldl_toList, Array.toList_zipIdx]
        simpa using hsp
      refine fill_sound e ?_ (by simpa using hl) (fun k p q h1 h2 => hp (k + 1) p q (by simpa using h1) (by simpa using h2))
      rw [harr, ← hvl]
      exact ((hv.take o).append g2).append (hv.drop _)
    · cases e

theorem partsOf_sound (he : EnvRel ρ n s a.tmps) : ∀ {ps : List (Nat × Nat × Operand)} {l : List (Nat × List Value)}, partsOf s ps = some l →
    l.length = ps.length ∧ ∀ (k : Nat) (p : Nat × List Value) (q : Nat × Nat × Operand), l[k]? = some p → ps[k]? = some q → p.1 = q.1 ∧ p.2.length = q.2.1 ∧ VRs ρ p.2 (a.eval q.2.2).cells.toList
  | [], l, e => by simp [partsOf] at e; subst e; exact ⟨rfl, fun k p q h1 _ => by simp at h1⟩
  | (o, m, x) :: ps, l, e => by
    unfold partsOf at e
    cases h1 : vcells (aeval s x) with
    | none => rw [h1] at e; simp at e
    | some vs =>
      cases h2 : partsOf s ps with
      | none => rw [h1, h2] at e; simp at e
      | some l2 =>
        rw [h1, h2] at e
        simp only at e
        split at e
        · rename_i hm
          cases e
          obtain ⟨g1, g2⟩ := partsOf_sound he h2
          refine ⟨by simp [g1], fun k p q h3 h4 => ?_⟩
          cases k with
          | zero =>
            simp at h3 h4; subst h3; subst h4
            exact ⟨rfl, hm, (aeval_sound he x).cells h1⟩
          | succ k => exact g2 k p q (by simpa using h3) (by simpa using h4)
        · cases e

end Go.Ev
