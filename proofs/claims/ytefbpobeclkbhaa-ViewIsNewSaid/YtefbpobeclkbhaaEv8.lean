/- Ev8: each compact operation is the model's. Part six: make, conversions, append, copy, clear. -/
import Derived.Test.YtefbpobeclkbhaaEv7
import Derived.Deep.Upon
import Derived.Laws.IdiomStrings
namespace Go.Ev
variable {P : Program} {ρ : Ren} {h : H} {a : Act} {w : World} {s : Env} {n : Nat}

theorem range_mod (z : List Value) (m : Nat) : ((List.range (m * z.length)).map fun i => z.getD (i % z.length) undef) = (List.replicate m z).flatten := by
  induction m with
  | zero => simp
  | succ m ih =>
    rw [List.replicate_succ', List.flatten_append, ← ih, Nat.succ_mul, List.range_add, List.map_append]
    congr 1
    simp only [List.flatten_cons, List.flatten_nil, List.append_nil, List.map_map]
    apply List.ext_getElem?
    intro j
    by_cases hj : j < z.length
    · simp [hj, Nat.mul_add_mod_self_right, Nat.mod_eq_of_lt hj, List.getD_eq_getElem?_getD]
    · simp [hj]

theorem madeCells_list {z : Array Value} (hz : 0 < z.size) (m : Nat) : (madeCells z (m * z.size)).toList = (List.replicate m z.toList).flatten := by
  rw [← range_mod z.toList m]
  simp only [madeCells, Array.toList_map, Array.toList_range, Array.length_toList]
  apply List.map_congr_left
  intro i _
  have hlt : i % z.size < z.size := Nat.mod_lt _ hz
  rw [getElem!_pos z _ hlt, List.getD_eq_getElem?_getD, List.getElem?_eq_getElem (by simpa using hlt)]
  simp

theorem flat_konst {z : List Value} (hz : z.all isKonst = true) (m : Nat) : ((List.replicate m z).flatten).all isKonst = true := by
  rw [List.all_eq_true] at hz ⊢
  intro v hv
  obtain ⟨l, hl, hv⟩ := List.mem_flatten.1 hv
  have := List.eq_of_mem_replicate hl
  exact hz v (this ▸ hv)

theorem good_makeSlice (o : Oper) (t el : TypeId) (l c : Operand) (ho : o.op = .makeSlice t l c) (ht : P.underlying t = some (.slice el)) {z : List Value} (hz : zeroC P el = some z) (hz0 : 0 < z.length) {by' : Nat} (hb : (P.info? el).map (·.bytes) = some by') (r : Rel ρ h w) (he : EnvRel ρ n s a.tmps)
    {i j : Int} (el' : aeval s l = .int .i64 i) (ec : aeval s c = .int .i64 j) (h0 : 0 ≤ i) (h1 : i ≤ j) (h2 : j ≤ 9223372036854775807) (h3 : by' * j.toNat ≤ 2 ^ 47) :
    Good P o ρ h a w (.slice (some ⟨h.size, 0, none⟩) i.toNat j.toNat) (newRow h (List.replicate j.toNat z).flatten z.length []) := by
  have x1 := aeval_sound he l
  rw [el'] at x1
  have e1 := x1.int_inv
  have x2 := aeval_sound he c
  rw [ec] at x2
  have e2 := x2.int_inv
  obtain ⟨zv, g1, g2, g3, g4⟩ := zeroC_run hz
  cases hi : P.info? el with
  | none => rw [hi] at hb; cases hb
  | some it =>
    rw [hi] at hb; simp at hb
    have hzz : it.zero = some zv := by
      have := g1 w
      unfold zeroC at hz
      rw [hi] at hz
      cases hzz : it.zero with
      | none => simp [hzz] at hz
      | some q => simp [zeroValue, typeInfo, hi, hzz] at this; subst this; rfl
    have hsz : zv.cells.size = z.length := by rw [← g2]; simp
    have his : it.size = z.length := by simpa [szOf, hi] using g4
    have hbytes : (it.bytes : Int) * j ≤ 281474976710656 := by
      rw [hb]
      have : ((by' * j.toNat : Nat) : Int) ≤ 2 ^ 47 := by exact_mod_cast h3
      rw [Int.natCast_mul, Int.toNat_of_nonneg (by omega)] at this
      omega
    have hrun := run_make w t el it zv ht hi hzz .i64 .i64 i j h0 h1 hbytes h2
    have hml : (madeCells zv.cells (j.toNat * it.size)).toList = (List.replicate j.toNat z).flatten := by
      rw [his, ← hsz, madeCells_list (by omega), g2]
    have hk := flat_konst g3 j.toNat
    obtain ⟨r1, r2⟩ := row_rel r (List.replicate j.toNat z).flatten (madeCells zv.cells (j.toNat * it.size)) el z.length true [] (by simp) 0
      (by rw [hml, List.take_length]; exact VRs.konst hk) (by rw [← Array.length_toList, hml]; simp) _ rfl
    refine ⟨.slice (some ⟨w.heap.size, 0, none⟩) i.toNat j.toNat, _, w.alloc (.cells (madeCells zv.cells (j.toNat * it.size)) el), .inl ?_, ?_, r1, r2⟩
    · simp [execOp, ho, e1, e2, hrun]
    · exact .slice (i := ⟨w.heap.size, 0, z.length, 0⟩) (by simp [Ren.put]) (by omega) (Nat.le_refl _) (by simp) (.inl rfl)

theorem VRs.bytes (l : List UInt8) : VRs ρ (l.map fun b => Value.int .u8 b.toNat) (l.map fun b => Value.int .u8 b.toNat) := by
  induction l with
  | nil => exact .nil
  | cons b l ih => rw [List.map_cons]; exact .cons (.int _ _) ih

theorem bytesOf_length (t : ByteArray) : (bytesOf t).length = t.size := by
  unfold bytesOf
  rw [List.length_map, Array.length_toList]
  rfl

theorem grownCap_ge (w : World) (need old : Nat) (e : TypeId) : need ≤ grownCap w need old e := by
  show need ≤ need + _
  omega

theorem good_toBytes (o : Oper) (src dst el : TypeId) (x : Operand) (ho : o.op = .convert src dst x) (hs : P.underlying src = some .string) (hd : P.underlying dst = some (.slice el)) (hel : P.underlying el = some (.int .u8)) (r : Rel ρ h w) (he : EnvRel ρ n s a.tmps)
    {t : ByteArray} (e : aeval s x = .string t) : Good P o ρ h a w (.slice (some ⟨h.size, 0, none⟩) t.size t.size) (newRow h (bytesOf t) 1 []) := by
  have x1 := aeval_sound he x
  rw [e] at x1
  have e1 := x1.string_inv
  have hrun := run_bytes_of_string (P := P) w src dst el t hs hd hel
  have hge := grownCap_ge w t.size 0 el
  generalize grownCap w t.size 0 el = cap at *
  have hrowsz : (bytesRow t cap).size = cap := by
    simp [bytesRow]
    have : t.data.size = t.size := rfl
    omega
  have hnew := heap_alloc_new w.drew (.cells (bytesRow t cap) el ((bytesRow t cap).size, (bytesRow t cap).size + 1))
  have hrd := r.drew
  obtain ⟨r1, r2⟩ := push_rel hrd (.cells (bytesRow t cap) el ((bytesRow t cap).size, (bytesRow t cap).size + 1)) (.cells (bytesOf t) 1 true []) ⟨w.heap.size, 0, 1, cap - t.size⟩ rfl
    ⟨rfl, fun j hj => by
      rw [bytesOf_length] at hj
      have hjl : j < cap := by simp at hj; omega
      have hjs : j < (bytesRow t cap).size := by omega
      have hnew' : (w.drew.alloc (.cells (bytesRow t cap) el ((bytesRow t cap).size, (bytesRow t cap).size + 1))).heap[w.heap.size]? = _ := hnew
      simp only [World.cell?, World.frozen?, hnew']
      simp [hjs]; omega, fun j v hj => by
      have hnew' : (w.drew.alloc (.cells (bytesRow t cap) el ((bytesRow t cap).size, (bytesRow t cap).size + 1))).heap[w.heap.size]? = _ := hnew
      obtain ⟨v', q1, q2⟩ := (VRs.bytes (ρ := ρ.put h.size ⟨w.heap.size, 0, 1, cap - t.size⟩) t.data.toList).get hj
      refine ⟨v', ?_, q2⟩
      simp only [World.cell?, hnew']
      have hjl : j < t.data.size := by
        have := (List.getElem?_eq_some_iff.1 hj).1
        simpa [bytesOf] using this
      simp only [bytesRow, Nat.add_zero, Option.isSome_none, Bool.false_eq_true, if_false]
      rw [Array.getElem?_append_left (by simpa using hjl)]
      simpa using q1⟩ (by simp [Blk.ancs])
  refine ⟨.slice (some ⟨w.heap.size, 0, none⟩) t.size cap, _, _, .inl (by simp [execOp, ho, e1, hrun]), ?_, r1, ?_⟩
  · exact .slice (i := ⟨w.heap.size, 0, 1, cap - t.size⟩) (by simp [Ren.put]) (Nat.le_refl _) hge (by simp) (.inl rfl)
  · exact ⟨r2.le, r2.hsz, r2.wsz, r2.af, r2.cf, r2.nw, r2.dull, r2.io⟩

theorem strOf_sound : ∀ {l l' : List Value} {bs : List UInt8}, strOf l = some bs → VRs ρ l l' → ∃ ns : List Int, l' = ns.map (Value.int .u8) ∧ bs = ns.map fun m => UInt8.ofNat m.toNat
  | [], _, bs, e, .nil => by simp [strOf] at e; subst e; exact ⟨[], rfl, rfl⟩
  | v :: l, _, bs, e, .cons hv t => by
    cases v with
    | int k m =>
      have := hv.int_inv
      cases k <;> simp [strOf] at e
      obtain ⟨b2, h2, rfl⟩ := e
      obtain ⟨ns, rfl, rfl⟩ := strOf_sound h2 t
      exact ⟨m :: ns, by simp [this], by simp⟩
    | _ => simp [strOf] at e

theorem foldl_push_ints : ∀ (ns : List Int) (r : ByteArray), ns.foldl (fun r n => r.push (UInt8.ofNat n.toNat)) r = ⟨r.data ++ (ns.map fun m => UInt8.ofNat m.toNat).toArray⟩
  | [], r => by simp
  | b :: l, r => by
    simp only [List.foldl_cons, List.map_cons]
    rw [foldl_push_ints l]
    simp [ByteArray.push]

theorem good_toString (o : Oper) (src dst el : TypeId) (x : Operand) (ho : o.op = .convert src dst x) (hs : P.underlying src = some (.slice el)) (hel : P.underlying el = some (.int .u8)) (hd : P.underlying dst = some .string) (r : Rel ρ h w) (he : EnvRel ρ n s a.tmps)
    {v : Value} {h' : H} (e : evOp (.conv .toString x) s h = some (v, h')) : Good P o ρ h a w v h' := by
  have x1 := aeval_sound he x
  simp only [evOp] at e
  split at e <;> simp at e
  · rename_i hc _ ; cases hc
  · rename_i hc _; cases hc
  · rename_i hc _; cases hc
  · rename_i hx
    rw [hx] at x1
    obtain ⟨rfl, rfl⟩ := e
    obtain ⟨_, _, e1⟩ := x1.snil_inv
    exact .same r (.string _) (by simp [execOp, ho, e1, run_convert_bytes_string w src dst el none 0 0 hs hel hd, Conv.bytesToString])
  · rename_i b q m c _ hx
    rw [hx] at x1
    obtain ⟨i, o', c', hi, e1, g1, g2, g3, g4⟩ := x1.slice_inv
    by_cases hm : m = 0
    · subst hm
      simp at e; obtain ⟨rfl, rfl⟩ := e
      have hb := run_bytesToString (P := P) w ⟨i.blk, o', none⟩ 0 c' [] (by simp [loadCells, loadCellsFrom])
      exact .same r (.string _) (by simp [execOp, ho, e1, run_convert_bytes_string w src dst el _ 0 c' hs hel hd, hb])
    · rw [if_neg hm] at e
      have ho' : o' = q + i.sh := by rcases g4 with g4 | g4 <;> omega
      subst ho'
      cases hl : rd h b q m with
      | none => rw [hl] at e; simp at e
      | some l =>
        rw [hl] at e
        cases hst : strOf l with
        | none => simp [hst] at e
        | some bs =>
          simp [hst] at e
          obtain ⟨rfl, rfl⟩ := e
          obtain ⟨f1, l', f2, f3⟩ := rd_rel r hi hl
          obtain ⟨ns, rfl, rfl⟩ := strOf_sound hst f2
          have hlen : (ns.map (Value.int .u8)).length = m := by rw [← f2.length]; exact f1
          have hld := run_loadCells_list (P := P) w ⟨i.blk, q + i.sh, none⟩ (ns.map (Value.int .u8)) (fun j v hv => by rw [Addr.add_mid]; exact f3 j v hv)
          rw [hlen] at hld
          have hb := run_bytesToString (P := P) w ⟨i.blk, q + i.sh, none⟩ m c' ns hld
          rw [foldl_push_ints] at hb
          have he0 : ByteArray.empty.data = #[] := rfl
          rw [he0] at hb
          refine .same r (.string _) ?_
          simp [execOp, ho, e1, run_convert_bytes_string w src dst el _ m c' hs hel hd, hb]

end Go.Ev
