/- Ev10: each compact operation is the model's. Part eight: copy, clear, maps. -/
import Derived.Test.YtefbpobeclkbhaaEv9
namespace Go.Ev
variable {P : Program} {ρ : Ren} {h : H} {a : Act} {w : World} {s : Env} {n : Nat}

theorem good_copy (o : Oper) (t tx el : TypeId) (d x : Operand) (ho : o.op = .call { callee := .builtin .copy, args := #[d, x], argTypes := #[t, tx] }) (ht : P.underlying t = some (.slice el)) {es : Nat} (hes : szOf P el = some es) {dd : TypeDesc} (htx : P.underlying tx = some dd)
    (r : Rel ρ h w) (he : EnvRel ρ n s a.tmps) (hk : srcKind (aeval s x) dd) {m : Nat} {new : List Value} (esrc : srcOf h es (aeval s x) = some (m, new)) (h1 : new.all oneCell = true)
    {b q k c : Nat} (hd : aeval s d = .slice (some ⟨b, q, none⟩) k c) {h' : H} (e : wr h b q (new.take (min m k * es)) = some h') (hpos : min m k ≠ 0) : Good P o ρ h a w (.int .i64 (min m k)) h' := by
  have xd := aeval_sound he d
  rw [hd] at xd
  obtain ⟨i, o', c', hib, e1, q1, q2, q3, q4⟩ := xd.slice_inv
  have ho' : o' = q + i.sh := by rcases q4 with q4 | q4 <;> omega
  subst ho'
  obtain ⟨new', f1, f2, f3⟩ := src_sound r (aeval_sound he x) esrc h1 htx hk
  obtain ⟨p1, p2, p3, p4, p5⟩ := wr_rel r hib e (f1.take _)
  have hst := run_storeCells_cells (P := P) i.blk (q + i.sh) (new'.take (min m k * es)) 0 w (by simpa using p1) (by simpa using p2) p3
  simp only [Nat.add_zero] at hst
  refine ⟨.int .i64 (min m k), ρ, _, .inl ?_, .int _ _, p4, p5⟩
  have hfc : (Builtin.firstCells es (min m k) (a.eval x)).run P w = .ok (new'.take (min m k * es)).toArray w := by
    rcases srcOf_cases esrc with ⟨g1, g2, g3⟩ | ⟨b2, q2', k2, c2, g1, g2⟩ | ⟨t2, g1, g2, g3, g4⟩ | ⟨b2, q2', z2, g1, g2, g3⟩
    · subst g2; simp at hpos
    · have hx' := aeval_sound he x
      rw [g1] at hx'
      obtain ⟨i2, o2, c3, hi2, e2, j1, j2, j3, j4⟩ := hx'.slice_inv
      rcases g2 with ⟨_, g2, _⟩ | ⟨g2, rfl, g3⟩
      · subst g2; simp at hpos
      · have ho2 : o2 = q2' + i2.sh := by rcases j4 with j4 | j4 <;> omega
        subst ho2
        have hcells := f2.cells
        rw [e2] at hcells ⊢
        have hln : new'.length = m * es := by rw [← f1.length]; exact f3
        obtain ⟨f1', l', f2', f3'⟩ := rd_rel r hi2 g3
        have hfc0 := run_firstCells_some (P := P) w es m ⟨i2.blk, q2' + i2.sh, none⟩ m c3 l' (by rw [← f2'.length]; exact f1') (fun j v hv => by rw [Addr.add_mid]; exact f3' j v hv)
        rw [hcells] at hfc0
        have hll : new' = l' := by
          have := Result.ok.inj hfc0
          simpa using this.1
        subst hll
        refine run_firstCells_some (P := P) w es (min m k) ⟨i2.blk, q2' + i2.sh, none⟩ m c3 _ ?_ ?_
        · have : min m k * es ≤ m * es := Nat.mul_le_mul_right _ (Nat.min_le_left _ _)
          simp; omega
        · intro j v hv
          rw [List.getElem?_take] at hv
          split at hv
          · rw [Addr.add_mid]; exact f3' j v hv
          · cases hv
    · have hx' := aeval_sound he x
      rw [g1] at hx'
      have e2 := hx'.string_inv
      subst g2; subst g3; subst g4
      have hcells := f2.cells
      rw [e2] at hcells ⊢
      rw [firstCells_string] at hcells
      have hnn : new' = byteCells t2 := by
        have := Result.ok.inj hcells
        simpa using this.1.symm
      subst hnn
      simp only [Builtin.firstCells, byteCells, Nat.mul_one]
      simp
      apply Array.ext'
      simp
    · subst g2; simp at hpos
  have hlen : ∀ w' : World, (Builtin.lenOf (a.eval x)).run P w' = .ok m w' := f2.len
  simp only [execOp, ho, resolve, invoke, builtin, Sem.run_bind, Sem.run_pure, Result.andThen_ok]
  simp [e1, Builtin.copy_, run_underlying ht, hlen, run_sizeOf' (w := w) hes, hfc, hst, goInt]
  show ((min m k : Nat) : Int) = _
  omega

theorem good_copyNil (o : Oper) (t tx el : TypeId) (d x : Operand) (ho : o.op = .call { callee := .builtin .copy, args := #[d, x], argTypes := #[t, tx] }) (ht : P.underlying t = some (.slice el)) {es : Nat} (hes : szOf P el = some es) {dd : TypeDesc} (htx : P.underlying tx = some dd)
    (r : Rel ρ h w) (he : EnvRel ρ n s a.tmps) (hk : srcKind (aeval s x) dd) {m : Nat} {new : List Value} (esrc : srcOf h es (aeval s x) = some (m, new))
    {v' : Value} {k : Nat} (hd : ∃ ad c, a.eval d = .slice ad k c) (_hv : v' = a.eval d) (hpos : min m k = 0) : Good P o ρ h a w (.int .i64 0) h := by
  obtain ⟨ad, c, hd⟩ := hd
  have hx' := aeval_sound he x
  have hlen : (Builtin.lenOf (a.eval x)).run P w = .ok m w := by
    rcases srcOf_cases esrc with ⟨g1, g2, g3⟩ | ⟨b2, q2', k2, c2, g1, g2⟩ | ⟨t2, g1, g2, g3, g4⟩ | ⟨b2, q2', z2, g1, g2, g3⟩ <;> rw [g1] at hx'
    · obtain ⟨_, _, e2⟩ := hx'.snil_inv
      simp [e2, Builtin.lenOf, g2]
    · obtain ⟨i2, o2, c3, hi2, e2, _⟩ := hx'.slice_inv
      rcases g2 with ⟨g3, g4, _⟩ | ⟨_, g3, _⟩ <;> rw [e2] <;> simp [Builtin.lenOf, *]
    · have e2 := hx'.string_inv
      simp [e2, Builtin.lenOf, g3]
    · obtain ⟨ad2, e2⟩ : ∃ ad2, a.eval x = .slice (some ad2) 0 0 := by
        generalize a.eval x = xv at hx'
        cases hx'; exact ⟨_, rfl⟩
      simp [e2, Builtin.lenOf, g2]
  have hfc : (Builtin.firstCells es 0 (a.eval x)).run P w = .ok #[] w := by
    rcases srcOf_cases esrc with ⟨g1, g2, g3⟩ | ⟨b2, q2', k2, c2, g1, g2⟩ | ⟨t2, g1, g2, g3, g4⟩ | ⟨b2, q2', z2, g1, g2, g3⟩ <;> rw [g1] at hx'
    · obtain ⟨_, _, e2⟩ := hx'.snil_inv
      simp [e2, Builtin.firstCells]
    · obtain ⟨i2, o2, c3, hi2, e2, _⟩ := hx'.slice_inv
      simp [e2, Builtin.firstCells, loadCells, loadCellsFrom]
    · have e2 := hx'.string_inv
      simp [e2, Builtin.firstCells]
    · obtain ⟨ad2, e2⟩ : ∃ ad2, a.eval x = .slice (some ad2) 0 0 := by
        generalize a.eval x = xv at hx'
        cases hx'; exact ⟨_, rfl⟩
      simp [e2, Builtin.firstCells, loadCells, loadCellsFrom]
  have _ := hk
  have _ := htx
  have hmin : m.min k = 0 := hpos
  refine .same r (.int _ _) ?_
  simp only [execOp, ho, resolve, invoke, builtin, Sem.run_bind, Sem.run_pure, Result.andThen_ok]
  cases ad <;> simp [hd, Builtin.copy_, run_underlying ht, hlen, run_sizeOf' (w := w) hes, hmin, hfc, goInt, storeCells]

theorem zeroCells_list {z : Array Value} (hz : 0 < z.size) (m : Nat) : (Builtin.zeroCells z m).toList = (List.replicate m z.toList).flatten := by
  have := madeCells_list hz m
  unfold madeCells at this
  rw [← this]
  rfl

theorem good_clear (o : Oper) (t el : TypeId) (x : Operand) (ho : o.op = .call { callee := .builtin .clear, args := #[x], argTypes := #[t] }) (ht : P.underlying t = some (.slice el)) {z : List Value} (hz : zeroC P el = some z) (hz0 : 0 < z.length) (r : Rel ρ h w) (he : EnvRel ρ n s a.tmps)
    {b q k c : Nat} (hx : aeval s x = .slice (some ⟨b, q, none⟩) k c) (hk : k ≠ 0) {h' : H} (e : wr h b q (List.replicate k z).flatten = some h') : Good P o ρ h a w (.tuple ⟨[]⟩) h' := by
  have xd := aeval_sound he x
  rw [hx] at xd
  obtain ⟨i, o', c', hib, e1, q1, q2, q3, q4⟩ := xd.slice_inv
  have ho' : o' = q + i.sh := by rcases q4 with q4 | q4 <;> omega
  subst ho'
  obtain ⟨zv, g1, g2, g3, g4⟩ := zeroC_run hz
  obtain ⟨p1, p2, p3, p4, p5⟩ := wr_rel r hib e (VRs.konst (ρ := ρ) (flat_konst g3 k))
  have hst := run_storeCells_cells (P := P) i.blk (q + i.sh) (List.replicate k z).flatten 0 w (by simpa using p1) (by simpa using p2) p3
  simp only [Nat.add_zero] at hst
  have hzc : (Builtin.zeroCells zv.cells k).toList = (List.replicate k z).flatten := by
    rw [zeroCells_list (by rw [← Array.length_toList, g2]; exact hz0), g2]
  refine ⟨.tuple #[], ρ, _, .inl ?_, .tuple .nil, p4, p5⟩
  obtain ⟨k, rfl⟩ : ∃ k', k = k' + 1 := ⟨k - 1, by omega⟩
  simp only [execOp, ho, resolve, invoke, builtin, Sem.run_bind, Sem.run_pure, Result.andThen_ok]
  simp [e1, Builtin.clear_, run_underlying ht, g1, hzc, hst]

theorem good_clearNone (o : Oper) (t el : TypeId) (x : Operand) (ho : o.op = .call { callee := .builtin .clear, args := #[x], argTypes := #[t] }) (ht : P.underlying t = some (.slice el)) (r : Rel ρ h w)
    (hx : ∃ ad c, a.eval x = .slice ad 0 c) : Good P o ρ h a w (.tuple ⟨[]⟩) h := by
  obtain ⟨ad, c, hx⟩ := hx
  refine .same r (.tuple .nil) ?_
  simp only [execOp, ho, resolve, invoke, builtin, Sem.run_bind, Sem.run_pure, Result.andThen_ok]
  cases ad <;> simp [hx, Builtin.clear_, run_underlying ht]

/-! ### maps -/
theorem ba_eq {a b : ByteArray} : (a == b) = true ↔ a = b := by
  obtain ⟨⟨x⟩⟩ := a
  obtain ⟨⟨y⟩⟩ := b
  have : ((⟨⟨x⟩⟩ : ByteArray) == ⟨⟨y⟩⟩) = (x == y) := by
    show ((⟨x⟩ : Array UInt8) == ⟨y⟩) = (x == y)
    simp
  rw [this]
  simp

theorem map_eraseIdx {α β : Type} (f : α → β) : ∀ (l : List α) (j : Nat), (l.eraseIdx j).map f = (l.map f).eraseIdx j
  | [], _ => by simp
  | _ :: _, 0 => by simp
  | x :: l, j + 1 => by simp [map_eraseIdx f l j]

theorem map_modify_set {α β : Type} (f : α → β) (g : α → α) (v : β) (hg : ∀ x, f (g x) = v) : ∀ (l : List α) (j : Nat), (l.modify j g).map f = (l.map f).set j v
  | [], j => by simp
  | x :: l, 0 => by simp [hg]
  | x :: l, j + 1 => by simp [map_modify_set f g v hg l j]

theorem key_same {ck : CK} {k k' : Value} (h : VR ρ k k') (hk : isKey ck k = true) : k' = k := by
  cases ck <;> cases h <;> simp [isKey, Ev.junk] at hk <;> rfl

/-- The kind of keys of a type. -/
def keyKind (k : Value) (kd : TypeDesc) : Prop :=
  match k with
  | .int _ _ => ∃ q, kd = .int q
  | .string _ => kd = .string
  | .bool _ => kd = .bool
  | _ => False

theorem keyEq_now {kd : TypeDesc} {k e e' : Value} (he : VR ρ e e') {b : Bool} (h : keyEq k e = some b) (hkd : keyKind k kd) : Instr.sameNow kd k e' = some b := by
  unfold keyEq at h
  split at h <;> simp at h
  · obtain ⟨q, rfl⟩ := hkd
    have := he.int_inv
    subst this
    simp [Instr.sameNow, h]
  · subst hkd
    have := he.string_inv
    subst this
    simp [Instr.sameNow, h]
  · subst hkd
    have := he.bool_inv
    subst this
    simp [Instr.sameNow, h]

theorem find_now {kd : TypeDesc} {k : Value} (hkd : keyKind k kd) : ∀ {m : List (Value × Value)} {es : List MapEntry} {i : Nat} {r : Option (Nat × Value)}, findM k m i = some r →
    VRs ρ (m.map (·.1)) (es.map (·.key)) → VRs ρ (m.map (·.2)) (es.map (·.val)) →
    ∃ r', Instr.findNow kd k es i = some r' ∧ (match r, r' with
      | none, none => True
      | some (j, v), some (j', v') => j = j' ∧ VR ρ v v' ∧ i ≤ j ∧ j < i + es.length ∧ (∃ e, es[j - i]? = some e ∧ e.key = k)
      | _, _ => False)
  | [], [], i, r, e, _, _ => by simp [findM] at e; subst e; exact ⟨none, rfl, trivial⟩
  | [], _ :: _, _, _, _, h1, _ => by cases h1
  | _ :: _, [], _, _, _, h1, _ => by cases h1
  | (k0, v0) :: m, e0 :: es, i, r, e, h1, h2 => by
    simp only [List.map_cons] at h1 h2
    cases h1 with
    | cons hk0 t1 =>
      cases h2 with
      | cons hv0 t2 =>
        simp only [findM] at e
        cases hq : keyEq k k0 with
        | none => rw [hq] at e; simp at e
        | some b =>
          have hn := keyEq_now hk0 hq hkd
          rw [hq] at e
          cases b with
          | true =>
            simp at e; subst e
            refine ⟨some (i, e0.val), by simp [Instr.findNow, hn], rfl, hv0, Nat.le_refl _, by simp, e0, by simp, ?_⟩
            unfold keyEq at hq
            split at hq <;> simp at hq
            · have := hk0.int_inv; rw [this, hq.1, hq.2]
            · have := hk0.string_inv; rw [this, ba_eq.1 hq]
            · have := hk0.bool_inv; rw [this, hq]
          | false =>
            simp at e
            obtain ⟨r', g1, g2⟩ := find_now hkd e t1 t2
            refine ⟨r', by simp [Instr.findNow, hn, g1], ?_⟩
            cases r <;> cases r' <;> simp at g2 ⊢
            obtain ⟨g3, g4, g5, g6, e2, g7, g8⟩ := g2
            refine ⟨g3, g4, by omega, by omega, e2, ?_, g8⟩
            rename_i p _
            rw [show p.1 - i = (p.1 - (i + 1)) + 1 by omega]
            simpa using g7

theorem checkKey_run {kt : TypeId} {kd : TypeDesc} (hk : P.underlying kt = some kd) {k : Value} (hkd : keyKind k kd) (b : Bool) : (Instr.checkKey b 10000 kt k).run P w = .ok () w := by
  show (Instr.checkKey b (9999 + 1) kt k).run P w = .ok () w
  generalize 9999 = q
  cases k <;> simp [keyKind] at hkd
  · subst hkd; simp [Instr.checkKey, run_underlying hk]
  · obtain ⟨q', rfl⟩ := hkd; simp [Instr.checkKey, run_underlying hk]
  · subst hkd; simp [Instr.checkKey, run_underlying hk]

theorem findKey_run {kt : TypeId} {kd : TypeDesc} (hk : P.underlying kt = some kd) {k : Value} {es : List MapEntry} {r : Option (Nat × Value)} (e : Instr.findNow kd k es 0 = some r) : (Instr.findKey kt k es).run P w = .ok r w := by
  simp [Instr.findKey, run_underlying hk, e]

theorem good_lookup (o : Oper) (t kt et : TypeId) (x k : Operand) (ok : Bool) (ho : o.op = .lookup t x k ok) (ht : P.underlying t = some (.map kt et)) {kd : TypeDesc} (hkt : P.underlying kt = some kd) {z zv : Value} (hz : ∀ w, (zeroValue et).run P w = .ok zv w) (hzz : VR ρ z zv)
    (r : Rel ρ h w) (he : EnvRel ρ n s a.tmps) {m : List (Value × Value)} (hm : entriesOf h (aeval s x) = some m) {ck : CK} (hkey : isKey ck (aeval s k) = true) (hkd : keyKind (aeval s k) kd) {q : Option (Nat × Value)} (hf : findM (aeval s k) m 0 = some q)
    {v : Value} (hv : v = match q with
      | some (_, u) => if ok then .tuple ⟨[u, .bool true]⟩ else u
      | none => if ok then .tuple ⟨[z, .bool false]⟩ else z) : Good P o ρ h a w v h := by
  have x1 := aeval_sound he x
  have e2 := key_same (aeval_sound he k) hkey
  unfold entriesOf at hm
  split at hm
  · rename_i hx
    rw [hx] at x1
    have e1 := x1.mnil_inv
    simp at hm; subst hm
    simp [findM] at hf; subst hf
    simp at hv; subst hv
    have hck := checkKey_run (P := P) (w := w) hkt hkd
    have hfk := findKey_run (P := P) (w := w) hkt (k := aeval s k) (es := []) (r := none) rfl
    cases ok
    · exact .same r hzz (by simp [execOp, ho, Instr.lookup, run_underlying ht, e1, e2, hck, hfk, hz])
    · exact .same (v' := .tuple ⟨[zv, .bool false]⟩) r (.tuple (.cons hzz (.cons (.bool _) .nil))) (by simp [execOp, ho, Instr.lookup, run_underlying ht, e1, e2, hck, hfk, hz])
  · rename_i b hx
    rw [hx] at x1
    obtain ⟨i, hi, e1⟩ := x1.map_inv
    split at hm
    · rename_i es0 lv hb
      simp at hm; subst hm
      obtain ⟨es', clock, g1, g2, g3, g4, g5⟩ := r.blk b i _ hi hb
      have hck := checkKey_run (P := P) (w := w) hkt hkd
      obtain ⟨r', f1, f2⟩ := find_now hkd hf g2 g3
      have hfk := findKey_run (P := P) (w := w) hkt f1
      cases q with
      | none =>
        cases r' with
        | some p => simp at f2
        | none =>
          simp at hv; subst hv
          cases ok
          · exact .same r hzz (by simp [execOp, ho, Instr.lookup, run_underlying ht, e1, e2, getObj, Sem.run, g1, hck, hfk, hz])
          · exact .same (v' := .tuple ⟨[zv, .bool false]⟩) r (.tuple (.cons hzz (.cons (.bool _) .nil))) (by simp [execOp, ho, Instr.lookup, run_underlying ht, e1, e2, getObj, Sem.run, g1, hck, hfk, hz])
      | some p =>
        cases r' with
        | none => simp at f2
        | some p' =>
          obtain ⟨j, u⟩ := p
          obtain ⟨j', u'⟩ := p'
          obtain ⟨_, f3, _⟩ := f2
          simp at hv; subst hv
          cases ok
          · exact .same r f3 (by simp [execOp, ho, Instr.lookup, run_underlying ht, e1, e2, getObj, Sem.run, g1, hck, hfk])
          · exact .same (v' := .tuple ⟨[u', .bool true]⟩) r (.tuple (.cons f3 (.cons (.bool _) .nil))) (by simp [execOp, ho, Instr.lookup, run_underlying ht, e1, e2, getObj, Sem.run, g1, hck, hfk])
    · cases hm
  · cases hm

theorem VRs.set : ∀ {l l' : List Value} (i : Nat) {v v' : Value}, VRs ρ l l' → VR ρ v v' → VRs ρ (l.set i v) (l'.set i v')
  | _, _, _, _, _, .nil, _ => by simp; exact .nil
  | _, _, 0, _, _, .cons _ t, hv => by simp; exact .cons hv t
  | _, _, i + 1, _, _, .cons h t, hv => by simp; exact .cons h (t.set i hv)

theorem VRs.erase : ∀ {l l' : List Value} (i : Nat), VRs ρ l l' → VRs ρ (l.eraseIdx i) (l'.eraseIdx i)
  | _, _, _, .nil => by simp; exact .nil
  | _, _, 0, .cons _ t => by simp; exact t
  | _, _, i + 1, .cons h t => by simp; exact .cons h (t.erase i)

/-- A map's entries change. -/
theorem map_rel (r : Rel ρ h w) {b : Nat} {i : Info} (hb : ρ b = some i) {es : List (Value × Value)} (hx : h[b]? = some (.map es true)) (es2 : List (Value × Value)) (es' : Array MapEntry) (clock : Nat)
    (h1 : VRs ρ (es2.map (·.1)) (es'.toList.map (·.key))) (h2 : VRs ρ (es2.map (·.2)) (es'.toList.map (·.val))) (h3 : (∀ x ∈ es'.toList, x.born < clock) ∧ (es'.toList.map (·.born)).Nodup) :
    Rel ρ (h.setIfInBounds b (.map es2 true)) { w with heap := w.heap.setIfInBounds i.blk (.map es' clock) } ∧ Ext ρ h w ρ (h.setIfInBounds b (.map es2 true)) { w with heap := w.heap.setIfInBounds i.blk (.map es' clock) } := by
  have hbs := r.dom b i hb
  have hbw := r.bnd b i hb
  have hother : ∀ {j : Nat}, j ≠ i.blk → ({ w with heap := w.heap.setIfInBounds i.blk (.map es' clock) } : World).heap[j]? = w.heap[j]? := by
    intro j hj
    show (w.heap.setIfInBounds i.blk (.map es' clock))[j]? = _
    rw [Array.getElem?_setIfInBounds_ne (Ne.symm hj)]
  have hself : ({ w with heap := w.heap.setIfInBounds i.blk (.map es' clock) } : World).heap[i.blk]? = some (.map es' clock) := by
    show (w.heap.setIfInBounds i.blk (.map es' clock))[i.blk]? = _
    rw [Array.getElem?_setIfInBounds_self_of_lt hbw]
  have same : ∀ {c k x}, ρ c = some k → h[c]? = some x → x.isDead = false → k.blk = i.blk → c = b := by
    intro c k x hk hc hd hkl
    apply Classical.byContradiction
    intro hne
    rcases r.sep c b k i x _ hk hb hkl hne hc hx hd rfl with ⟨g1, _⟩ | ⟨_, g2, _⟩
    · simp [Blk.ancs] at g1
    · simp [Blk.isLive] at g2
  have back : ∀ {c : Nat} {x : Blk}, (h.setIfInBounds b (.map es2 true))[c]? = some x → (c = b ∧ x = .map es2 true) ∨ (c ≠ b ∧ h[c]? = some x) := by
    intro c x hc
    by_cases hcb : c = b
    · subst hcb
      rw [Array.getElem?_setIfInBounds_self_of_lt hbs] at hc
      cases hc; exact .inl ⟨rfl, rfl⟩
    · rw [Array.getElem?_setIfInBounds_ne (Ne.symm hcb)] at hc
      exact .inr ⟨hcb, hc⟩
  refine ⟨⟨fun c k hk => by simp; exact r.dom c k hk, fun c k hk => by show k.blk < (w.heap.setIfInBounds i.blk (.map es' clock)).size; simp; exact r.bnd c k hk, ?_, ?_, ?_⟩, ⟨.refl _, by simp, by show _ ≤ (w.heap.setIfInBounds i.blk (.map es' clock)).size; simp, ?_, ?_, fun _ _ h => .inl h, ?_, ⟨rfl, rfl⟩⟩⟩
  · intro c k x hk hc
    rcases back hc with ⟨rfl, rfl⟩ | ⟨hcb, hc'⟩
    · rw [hb] at hk; cases hk
      exact ⟨es', clock, hself, h1, h2, h3⟩
    · by_cases hd : x.isDead = true
      · cases x <;> simp [Blk.isDead] at hd; trivial
      · have hd : x.isDead = false := by simpa using hd
        have hkl : k.blk ≠ i.blk := fun e => hcb (same hk hc' hd e)
        exact (r.blk c k x hk hc').keep (.refl _) (hother hkl)
  · intro c d k l x y hk hl hkl hne hc hd hxd hyd
    rcases back hc with ⟨rfl, rfl⟩ | ⟨hcb, hc'⟩
    · rw [hb] at hk; cases hk
      rcases back hd with ⟨rfl, rfl⟩ | ⟨hdb, hd'⟩
      · exact absurd rfl hne
      · exact absurd (same hl hd' hyd hkl.symm) hdb
    · rcases back hd with ⟨rfl, rfl⟩ | ⟨hdb, hd'⟩
      · rw [hb] at hl; cases hl
        exact absurd (same hk hc' hxd hkl) hcb
      · exact r.sep c d k l x y hk hl hkl hne hc' hd' hxd hyd
  · intro c k x a hk hc ha
    rcases back hc with ⟨rfl, rfl⟩ | ⟨_, hc'⟩
    · cases ha
    · exact r.anc c k x a hk hc' ha
  · intro c hcl hn
    have hcb : c ≠ b := fun e => by subst e; rw [hb] at hn; cases hn
    rw [Array.getElem?_setIfInBounds_ne (Ne.symm hcb)]
  · intro b' hb' hl'
    apply hother
    intro e; subst e
    have := hl' b i _ hb rfl hx
    simp [Blk.isLive] at this
  · intro c x x' hcl h3 h4 h5
    rcases back h4 with ⟨rfl, rfl⟩ | ⟨_, hc'⟩
    · rw [hx] at h3; cases h3; simp [Blk.isLive] at h5
    · rw [h3] at hc'; cases hc'; exact h5

theorem modify_list {α : Type} (l : Array α) (i : Nat) (f : α → α) : (l.modify i f).toList = l.toList.modify i f := by simp

theorem sameBits_key {ck : CK} {k : Value} (hk : isKey ck k = true) : Instr.sameBits 10000 k k = true := by
  cases ck <;> cases k <;> simp [isKey] at hk <;> simp [Instr.sameBits]
  exact ba_eq.2 rfl

def ckOf : TypeDesc → Option CK
  | .int _ => some .int
  | .string => some .str
  | .bool => some .bool
  | _ => none

theorem keyKind_of {ck : CK} {k : Value} {d : TypeDesc} (hd : ckOf d = some ck) (hk : isKey ck k = true) : keyKind k d := by
  cases d <;> simp [ckOf] at hd <;> subst hd <;> cases k <;> simp [isKey] at hk <;> simp [keyKind]

theorem good_mapUpd (o : Oper) (t kt et : TypeId) (x k y : Operand) (ho : o.op = .mapUpdate t x k y ∨ o.op = .insert t x k y) (ht : P.underlying t = some (.map kt et)) {kd : TypeDesc} (hkt : P.underlying kt = some kd) (r : Rel ρ h w) (he : EnvRel ρ n s a.tmps)
    {b : Nat} (hx : aeval s x = .map (some b)) {m : List (Value × Value)} (hb : h[b]? = some (.map m true)) {ck : CK} (hkey : isKey ck (aeval s k) = true) (hkd : keyKind (aeval s k) kd) {q : Option (Nat × Value)} (hf : findM (aeval s k) m 0 = some q) {m2 : List (Value × Value)}
    (hv : m2 = match q with
      | some (i, _) => m.set i (aeval s k, aeval s y)
      | none => m ++ [(aeval s k, aeval s y)]) : Good P o ρ h a w junk (h.setIfInBounds b (.map m2 true)) := by
  have x1 := aeval_sound he x
  rw [hx] at x1
  obtain ⟨i, hi, e1⟩ := x1.map_inv
  have hk1 := aeval_sound he k
  have e2 := key_same hk1 hkey
  have hy := aeval_sound he y
  obtain ⟨es', clock, g1, g2, g3, g4, g5⟩ := r.blk b i _ hi hb
  have hck := checkKey_run (P := P) (w := w) hkt hkd
  obtain ⟨r', f1, f2⟩ := find_now hkd hf g2 g3
  have hfk := findKey_run (P := P) (w := w) hkt f1
  have hop : ∀ w', (Instr.mapUpdate t (a.eval x) (a.eval k) (a.eval y)).run P w = .ok () w' → (execOp a.eval o).run P w = .ok .skip w' := by
    intro w' hw
    rcases ho with ho | ho <;> simp [execOp, ho, hw]
  cases q with
  | none =>
    cases r' with
    | some p => simp at f2
    | none =>
      simp only at hv; subst hv
      obtain ⟨r1, r2⟩ := map_rel r hi hb (m ++ [(aeval s k, aeval s y)]) (es'.push { key := aeval s k, val := a.eval y, born := clock }) (clock + 1)
        (by simp only [List.map_append, Array.toList_push]; exact g2.append (.cons (by rw [e2] at hk1; exact hk1) .nil))
        (by simp only [List.map_append, Array.toList_push]; exact g3.append (.cons hy .nil))
        (by
          simp only [Array.toList_push, List.map_append, List.map_cons, List.map_nil]
          refine ⟨fun x hx => ?_, ?_⟩
          · rcases List.mem_append.1 hx with hx | hx
            · have := g4 x hx; omega
            · simp at hx; subst hx; simp
          · rw [List.nodup_append]
            refine ⟨g5, by simp, ?_⟩
            rintro a ha b hb rfl
            simp at hb
            obtain ⟨x, hx, rfl⟩ := List.mem_map.1 ha
            have := g4 x hx
            omega)
      refine ⟨undef, ρ, _, .inr ⟨hop _ ?_, rfl⟩, .junk _, r1, r2⟩
      simp [Instr.mapUpdate, run_underlying ht, e1, e2, getObj, setObj, Sem.run, g1, hck, hfk]
  | some p =>
    cases r' with
    | none => simp at f2
    | some p' =>
      obtain ⟨j, u⟩ := p
      obtain ⟨j', u'⟩ := p'
      obtain ⟨rfl, f3, _, f5, e0, f6, f7⟩ := f2
      simp only at hv; subst hv
      simp only [Nat.sub_zero] at f6
      have f6' : es'[j]? = some e0 := by simpa using f6
      obtain ⟨r1, r2⟩ := map_rel r hi hb (m.set j (aeval s k, aeval s y)) (es'.modify j fun e => { e with key := aeval s k, val := a.eval y }) clock
        (by
          rw [modify_list, List.map_set, map_modify_set (fun x : MapEntry => x.key) _ (aeval s k) (fun _ => rfl)]
          exact g2.set j (by rw [e2] at hk1; exact hk1))
        (by
          rw [modify_list, List.map_set, map_modify_set (fun x : MapEntry => x.val) _ (a.eval y) (fun _ => rfl)]
          exact g3.set j hy)
        (by
          have hbn : (es'.modify j fun e => { e with key := aeval s k, val := a.eval y }).toList.map (·.born) = es'.toList.map (·.born) := by
            rw [modify_list]
            apply List.ext_getElem?
            intro q
            rw [List.getElem?_map, List.getElem?_map, List.getElem?_modify]
            by_cases hq : j = q
            · subst hq
              cases es'.toList[j]? <;> simp
            · cases es'.toList[q]? <;> simp [hq]
          rw [hbn]
          refine ⟨fun x hx => ?_, g5⟩
          have : x.born ∈ (es'.modify j fun e => { e with key := aeval s k, val := a.eval y }).toList.map (·.born) := List.mem_map.2 ⟨x, hx, rfl⟩
          rw [hbn] at this
          obtain ⟨z, hz, e⟩ := List.mem_map.1 this
          rw [← e]
          exact g4 z hz)
      refine ⟨undef, ρ, _, .inr ⟨hop _ ?_, rfl⟩, .junk _, r1, r2⟩
      have hsb := sameBits_key hkey
      simp [Instr.mapUpdate, run_underlying ht, e1, e2, getObj, setObj, Sem.run, g1, hck, hfk, f6', f7, Instr.keyThatStays, hsb]

theorem good_delete (o : Oper) (t kt et tk : TypeId) (x k : Operand) (ho : o.op = .call { callee := .builtin .delete, args := #[x, k], argTypes := #[t, tk] }) (ht : P.underlying t = some (.map kt et)) {kd : TypeDesc} (hkt : P.underlying kt = some kd) (r : Rel ρ h w) (he : EnvRel ρ n s a.tmps)
    {b : Nat} (hx : aeval s x = .map (some b)) {m : List (Value × Value)} (hb : h[b]? = some (.map m true)) {ck : CK} (hkey : isKey ck (aeval s k) = true) (hkd : keyKind (aeval s k) kd) {q : Option (Nat × Value)} (hf : findM (aeval s k) m 0 = some q) {h' : H}
    (hv : h' = match q with
      | some (i, _) => h.setIfInBounds b (.map (m.eraseIdx i) true)
      | none => h) : Good P o ρ h a w (.tuple ⟨[]⟩) h' := by
  have x1 := aeval_sound he x
  rw [hx] at x1
  obtain ⟨i, hi, e1⟩ := x1.map_inv
  have e2 := key_same (aeval_sound he k) hkey
  obtain ⟨es', clock, g1, g2, g3, g4, g5⟩ := r.blk b i _ hi hb
  have hck := checkKey_run (P := P) (w := w) hkt hkd
  obtain ⟨r', f1, f2⟩ := find_now hkd hf g2 g3
  have hfk := findKey_run (P := P) (w := w) hkt f1
  cases q with
  | none =>
    cases r' with
    | some p => simp at f2
    | none =>
      simp only at hv; subst hv
      have hself : ({ w with heap := w.heap.setIfInBounds i.blk (.map es' clock) } : World) = w := by
        have hlt := r.bnd b i hi
        have : w.heap.setIfInBounds i.blk (.map es' clock) = w.heap := by
          apply Array.ext_getElem?
          intro j
          by_cases hj : i.blk = j
          · subst hj; rw [Array.getElem?_setIfInBounds_self_of_lt hlt, g1]
          · rw [Array.getElem?_setIfInBounds_ne hj]
        rw [this]
      refine .same r (.tuple .nil) ?_
      simp only [execOp, ho, resolve, invoke, builtin, Sem.run_bind, Sem.run_pure, Result.andThen_ok]
      simp [Builtin.delete_, run_underlying ht, e1, e2, getObj, setObj, Sem.run, g1, hck, hfk, hself]
  | some p =>
    cases r' with
    | none => simp at f2
    | some p' =>
      obtain ⟨j, u⟩ := p
      obtain ⟨j', u'⟩ := p'
      obtain ⟨rfl, _, _, f5, _⟩ := f2
      simp only at hv; subst hv
      have hjl : j < es'.size := by simpa using f5
      have hel : (es'.eraseIdxIfInBounds j).toList = es'.toList.eraseIdx j := by simp [Array.eraseIdxIfInBounds, hjl]
      obtain ⟨r1, r2⟩ := map_rel r hi hb (m.eraseIdx j) (es'.eraseIdxIfInBounds j) clock
        (by rw [hel, map_eraseIdx, map_eraseIdx]; exact g2.erase j)
        (by rw [hel, map_eraseIdx, map_eraseIdx]; exact g3.erase j)
        (by
          rw [hel]
          refine ⟨fun x hx => g4 x ((List.eraseIdx_sublist _ _).subset hx), ?_⟩
          exact List.Nodup.sublist ((List.eraseIdx_sublist _ _).map _) g5)
      refine ⟨.tuple #[], ρ, _, .inl ?_, .tuple .nil, r1, r2⟩
      simp only [execOp, ho, resolve, invoke, builtin, Sem.run_bind, Sem.run_pure, Result.andThen_ok]
      simp [Builtin.delete_, run_underlying ht, e1, e2, getObj, setObj, Sem.run, g1, hck, hfk]

theorem good_deleteNil (o : Oper) (t kt et tk : TypeId) (x k : Operand) (ho : o.op = .call { callee := .builtin .delete, args := #[x, k], argTypes := #[t, tk] }) (ht : P.underlying t = some (.map kt et)) {kd : TypeDesc} (hkt : P.underlying kt = some kd) (r : Rel ρ h w) (he : EnvRel ρ n s a.tmps)
    (hx : aeval s x = .map none) {ck : CK} (hkey : isKey ck (aeval s k) = true) (hkd : keyKind (aeval s k) kd) : Good P o ρ h a w (.tuple ⟨[]⟩) h := by
  have x1 := aeval_sound he x
  rw [hx] at x1
  have e1 := x1.mnil_inv
  have e2 := key_same (aeval_sound he k) hkey
  have hck := checkKey_run (P := P) (w := w) hkt hkd
  refine .same r (.tuple .nil) ?_
  simp only [execOp, ho, resolve, invoke, builtin, Sem.run_bind, Sem.run_pure, Result.andThen_ok]
  simp [Builtin.delete_, run_underlying ht, e1, e2, hck]

end Go.Ev
