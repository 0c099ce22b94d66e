/- Ev9: each compact operation is the model's. Part seven: append, copy, clear. -/
import Derived.Test.YtefbpobeclkbhaaEv8
namespace Go.Ev
variable {P : Program} {ρ : Ren} {h : H} {a : Act} {w : World} {s : Env} {n : Nat}

theorem VRs.bytesOf (t : ByteArray) : VRs ρ (bytesOf t) (byteCells t) := VRs.bytes t.data.toList

def srcKind (x : Value) (d : TypeDesc) : Prop :=
  match x with
  | .string _ => d = .string
  | _ => ∃ el, d = .slice el

def isStrD : TypeDesc → Option Bool
  | .string => some true
  | .slice _ => some false
  | _ => none

theorem srcKind_of {x : Value} {d : TypeDesc} {b : Bool} (hd : isStrD d = some b) (hx : isText x = b) : srcKind x d := by
  cases d <;> simp [isStrD] at hd <;> subst hd <;> cases x <;> simp [isText] at hx <;> simp [srcKind]

theorem srcOf_cases {es : Nat} {x : Value} {m : Nat} {new : List Value} (e : srcOf h es x = some (m, new)) :
    (x = .slice none 0 0 ∧ m = 0 ∧ new = []) ∨ (∃ b q k c, x = .slice (some ⟨b, q, none⟩) k c ∧ ((k = 0 ∧ m = 0 ∧ new = []) ∨ (k ≠ 0 ∧ m = k ∧ rd h b q (k * es) = some new))) ∨ (∃ t, x = .string t ∧ es = 1 ∧ m = t.size ∧ new = Ev.bytesOf t) ∨ (∃ b q z, x = .slice (some ⟨b, q, some z⟩) 0 0 ∧ m = 0 ∧ new = []) := by
  unfold srcOf at e
  split at e
  · simp at e; exact .inl ⟨rfl, e.1.symm, e.2⟩
  · rename_i b q k c
    refine .inr (.inl ⟨b, q, k, c, rfl, ?_⟩)
    split at e
    · simp at e; exact .inl ⟨by assumption, e.1.symm, e.2⟩
    · simp at e; exact .inr ⟨by assumption, e.2.symm, e.1⟩
  · rename_i b q z
    simp at e; exact .inr (.inr (.inr ⟨b, q, z, rfl, e.1.symm, e.2⟩))
  · rename_i t
    split at e
    · simp at e; exact .inr (.inr (.inl ⟨t, rfl, by assumption, e.1.symm, e.2.symm⟩))
    · cases e
  · cases e

/-- What an append or a copy finds. -/
theorem src_sound (r : Rel ρ h w) {es : Nat} {x x' : Value} (hx : VR ρ x x') {m : Nat} {new : List Value} (e : srcOf h es x = some (m, new)) (h1 : new.all oneCell = true) {tx : TypeId} {d : TypeDesc} (htx : P.underlying tx = some d)
    (hk : srcKind x d) : ∃ new', VRs ρ new new' ∧ Src P es tx x' m new' w ∧ new.length = m * es := by
  rcases srcOf_cases e with ⟨rfl, rfl, rfl⟩ | ⟨b, q, k, c, rfl, hc⟩ | ⟨t, rfl, rfl, rfl, rfl⟩ | ⟨b, q, z, rfl, rfl, rfl⟩
  · obtain ⟨el, rfl⟩ := hk
    obtain ⟨_, _, e1⟩ := hx.snil_inv
    subst e1
    exact ⟨[], .nil, Src.ofNil w htx 0, by simp⟩
  · obtain ⟨el, rfl⟩ := hk
    obtain ⟨i, o', c', hi, e1, g1, g2, g3, g4⟩ := hx.slice_inv
    subst e1
    rcases hc with ⟨rfl, rfl, rfl⟩ | ⟨hk0, rfl, hl⟩
    · exact ⟨[], .nil, Src.ofSlice w htx _ 0 c' [] (by simp) (by simp) (by simp), by simp⟩
    · have ho' : o' = q + i.sh := by rcases g4 with g4 | g4 <;> omega
      subst ho'
      obtain ⟨f1, l', f2, f3⟩ := rd_rel r hi hl
      exact ⟨l', f2, Src.ofSlice w htx _ m c' l' (by rw [← f2.length]; exact f1) (fun j v hv => by rw [Addr.add_mid]; exact f3 j v hv) (f2.one h1), f1⟩
  · subst hk
    have e1 := hx.string_inv
    subst e1
    exact ⟨_, VRs.bytesOf _, Src.ofString w htx _, by rw [bytesOf_length, Nat.mul_one]⟩
  · obtain ⟨el, rfl⟩ := hk
    cases hx with
    | dang ad => exact ⟨[], .nil, Src.ofSlice w htx _ 0 0 [] (by simp) (by simp) (by simp), by simp⟩

theorem firstCells_nil (w : World) (sz : Nat) (c : Nat) : (Builtin.firstCells sz 0 (.slice none 0 c)).run P w = .ok #[] w := by simp [Builtin.firstCells]

theorem put_head {ρ : Ren} {i : Info} : (ρ.put h.size i) h.size = some i := by simp [Ren.put]

set_option maxHeartbeats 1000000 in
theorem good_append (o : Oper) (t tx ty el : TypeId) (d x : Operand) (ho : o.op = .call { callee := .builtin .append, args := #[d, x], argTypes := #[t, tx] }) (ht : P.underlying t = some (.slice el)) {z : List Value} (hz : zeroC P el = some z)
    {by' : Nat} (hb : (P.info? el).map (·.bytes) = some by') (hb0 : 0 < by') {dd : TypeDesc} (htx : P.underlying tx = some dd) (r : Rel ρ h w) (he : EnvRel ρ n s a.tmps)
    (hk : srcKind (aeval s x) dd)
    {m : Nat} {new : List Value} (esrc : srcOf h z.length (aeval s x) = some (m, new)) (h1 : new.all oneCell = true) {v : Value} {h' : H} (e : appendTo h z.length by' (aeval s d) m new = some (v, h')) : Good P o ρ h a w v h' := by
  have _ := ty
  have xd := aeval_sound he d
  obtain ⟨new', f1, f2, f3⟩ := src_sound r (aeval_sound he x) esrc h1 htx hk
  obtain ⟨zv, g1, g2, g3, g4⟩ := zeroC_run hz
  cases hi : P.info? el with
  | none => rw [hi] at hb; cases hb
  | some it =>
    rw [hi] at hb; simp at hb
    have hzz : it.zero = some zv := by
      have := g1 w
      unfold zeroC at hz
      rw [hi] at hz
      cases hzz : it.zero with
      | none => simp [hzz] at hz
      | some q => simp [zeroValue, typeInfo, hi, hzz] at this; subst this; rfl
    have his : it.size = z.length := by simpa [szOf, hi] using g4
    have hnl := f1.length
    rw [← his] at f2
    unfold appendTo at e
    split at e
    · -- onto nil
      rename_i hd
      rw [hd] at xd
      obtain ⟨_, _, e1⟩ := xd.snil_inv
      split at e
      · rename_i hm; subst hm
        simp at e; obtain ⟨rfl, rfl⟩ := e
        have hn0 : new' = [] := List.eq_nil_of_length_eq_zero (by omega)
        subst hn0
        refine .same (v' := .slice none 0 0) r (by rw [hd]; exact .snil) ?_
        simp only [execOp, ho, resolve, invoke, builtin, Sem.run_bind, Sem.run_pure, Result.andThen_ok]
        have := run_append_nothing (P := P) w t tx o.type el it ht hi none 0 0 (Nat.le_refl _) (a.eval x) f2
        simp [e1, this]
      · rename_i hm
        split at e
        · rename_i hbnd
          simp at e; obtain ⟨rfl, rfl⟩ := e
          have hbnd' : m ≤ 2 ^ 47 := Nat.le_trans (Nat.le_mul_of_pos_right m hb0) hbnd
          have hfit := growslice_fits (need := m) (old := 0) (bytes := it.bytes) (by omega) (by rw [hb]; exact hbnd)
          have hrun := run_append_grow_src (P := P) w t tx o.type el it zv ht hi hzz none 0 0 [] (firstCells_nil _ _ _) (a.eval x) m new' f2 (by omega) (by omega) (by simpa using hfit)
          have hge := grownCap_ge w (0 + m) 0 el
          generalize grownCap w (0 + m) 0 el = cap at *
          have hzc : (Builtin.zeroCells zv.cells (cap - (0 + m))).size = (cap - (0 + m)) * z.length := by
            simp [Builtin.zeroCells, ← g2]
          obtain ⟨r1, r2⟩ := row_rel r.drew new (([] ++ new').toArray ++ Builtin.zeroCells zv.cells (cap - (0 + m))) el z.length true [] (by simp) ((cap - m) * z.length)
            (by rw [hnl]; simpa using f1) (by simp only [Array.size_append, hzc]; simp [hnl]) _ rfl
          refine ⟨.slice (some ⟨w.heap.size, 0, none⟩) (0 + m) cap, _, _, .inl ?_, ?_, r1, ⟨r2.le, r2.hsz, r2.wsz, r2.af, r2.cf, r2.nw, r2.dull, r2.io⟩⟩
          · simp only [execOp, ho, resolve, invoke, builtin, Sem.run_bind, Sem.run_pure, Result.andThen_ok]
            simp [e1, hrun]
          · rw [Nat.zero_add]
            exact .slice (i := ⟨w.heap.size, 0, z.length, (cap - m) * z.length⟩) put_head (Nat.le_refl _) (by omega) (Nat.le_refl _) (.inl rfl)
        · cases e
    · -- onto a row
      rename_i b q len cap0 hd
      rw [hd] at xd
      obtain ⟨i, o', c', hib, e1, q1, q2, q3, q4⟩ := xd.slice_inv
      split at e
      · rename_i hm; subst hm
        simp at e; obtain ⟨rfl, rfl⟩ := e
        have hn0 : new' = [] := List.eq_nil_of_length_eq_zero (by omega)
        subst hn0
        have hrun := run_append_nothing (P := P) w t tx o.type el it ht hi (some ⟨i.blk, o', none⟩) len c' (by omega) (a.eval x) f2
        refine .same (v' := .slice (some ⟨i.blk, o', none⟩) len c') r (by rw [hd]; exact .slice hib q1 q2 q3 q4) ?_
        simp only [execOp, ho, resolve, invoke, builtin, Sem.run_bind, Sem.run_pure, Result.andThen_ok]
        simp [e1, hrun]
      · rename_i hm
        split at e
        · -- within the known room
          rename_i hroom
          have ho' : o' = q + i.sh := by rcases q4 with q4 | q4 <;> omega
          subst ho'
          cases hw : wr h b (q + len * z.length) new with
          | none => rw [hw] at e; simp at e
          | some h2 =>
            rw [hw] at e; simp at e; obtain ⟨rfl, rfl⟩ := e
            obtain ⟨p1, p2, p3, p4, p5⟩ := wr_rel r hib hw f1
            have hrun := run_append_room_src (P := P) w t tx o.type el it ht hi i.blk (q + i.sh) len c' (a.eval x) m new' f2 (by omega)
              (fun j hj => by rw [his]; have := p1 j hj; rwa [show q + len * z.length + i.sh + j = q + i.sh + len * z.length + j by omega] at this)
              (fun j hj => by rw [his]; have := p2 j hj; rwa [show q + len * z.length + i.sh + j = q + i.sh + len * z.length + j by omega] at this)
            rw [his, show q + i.sh + len * z.length = q + len * z.length + i.sh by omega] at hrun
            refine ⟨.slice (some ⟨i.blk, q + i.sh, none⟩) (len + m) c', ρ, _, .inl ?_, ?_, p4, p5⟩
            · simp only [execOp, ho, resolve, invoke, builtin, Sem.run_bind, Sem.run_pure, Result.andThen_ok]
              simp [e1, hrun]
            · exact .slice hib hroom q2 q3 (.inl rfl)
        · rename_i hroom
          split at e
          · rename_i hbnd
            have hbnd' : len + m ≤ 2 ^ 47 := Nat.le_trans (Nat.le_mul_of_pos_right _ hb0) hbnd
            split at e
            · rename_i cs es' anc hx
              split at e
              · rename_i hcond
                obtain ⟨rfl, hcap⟩ := hcond
                obtain ⟨hes, hthere, hc⟩ := r.blk b i _ hib hx
                have hlc : len * z.length ≤ cap0 * z.length := Nat.mul_le_mul_right _ q1
                have hol : q + len * z.length ≤ cs.length := by omega
                have hnew : new.length = m * z.length := f3
                have holdlen : ((cs.drop q).take (len * z.length)).length = len * z.length := by simp; omega
                by_cases hfits : len + m ≤ c'
                · -- in its place
                  have ho' : o' = q + i.sh := by rcases q4 with q4 | q4 <;> omega
                  subst ho'
                  have hroom2 : q + c' * z.length ≤ cs.length + i.room := by
                    have : c' * z.length = cap0 * z.length + (c' - cap0) * z.length := by rw [← Nat.add_mul]; congr 1; omega
                    rw [hes] at q3
                    omega
                  have hneed : (len + m) * z.length = len * z.length + new.length := by rw [hnew, Nat.add_mul]
                  have hle2 : (len + m) * z.length ≤ c' * z.length := Nat.mul_le_mul_right _ hfits
                  have hrm : q + len * z.length + new.length + (c' - (len + m)) * z.length ≤ cs.length + i.room := by
                    have : c' * z.length = (len + m) * z.length + (c' - (len + m)) * z.length := by rw [← Nat.add_mul]; congr 1; omega
                    omega
                  have hrun : ∀ w', w.setCells i.blk (q + i.sh + len * z.length) new' = w' → (∀ j, j < new'.length → (w.cell? ⟨i.blk, q + i.sh + len * z.length + j, none⟩).isSome = true) → (∀ j, j < new'.length → w.frozen? ⟨i.blk, q + i.sh + len * z.length + j, none⟩ = false) →
                      (execOp a.eval o).run P w = .ok (.value (.slice (some ⟨i.blk, q + i.sh, none⟩) (len + m) c')) w' := by
                    intro w' hw' t1 t2
                    have hrun := run_append_room_src (P := P) w t tx o.type el it ht hi i.blk (q + i.sh) len c' (a.eval x) m new' f2 hfits (by rw [his]; exact t1) (by rw [his]; exact t2)
                    rw [his, hw'] at hrun
                    simp only [execOp, ho, resolve, invoke, builtin, Sem.run_bind, Sem.run_pure, Result.andThen_ok]
                    simp [e1, hrun]
                  by_cases hend : q + len * z.length = cs.length
                  · rw [if_pos hend] at e
                    simp at e; obtain ⟨rfl, rfl⟩ := e
                    obtain ⟨t1, t2, t3, t4, t5⟩ := grow_rel (h1 := h.setIfInBounds b (.cells cs z.length false anc)) (anc' := b :: anc) r hib hx hol f1 h1 (by omega) (by simp)
                      (by
                        intro c y hy
                        by_cases hcb : c = b
                        · subst hcb
                          rw [Array.getElem?_setIfInBounds_self_of_lt (r.dom _ _ hib)] at hy
                          cases hy; exact .inr (.inr ⟨rfl, rfl, hend⟩)
                        · rw [Array.getElem?_setIfInBounds_ne (Ne.symm hcb)] at hy
                          exact .inr (.inl ⟨hcb, hy⟩))
                      (by
                        intro c hc0
                        have hcb : c ≠ b := fun e0 => by subst e0; rw [hib] at hc0; cases hc0
                        rw [Array.getElem?_setIfInBounds_ne (Ne.symm hcb)])
                      (by intro y hy; simpa using hy) (by intro c y _ _ hcc _; exact ⟨by simpa using hcc, hend⟩) ((c' - (len + m)) * z.length) hrm _ rfl
                    refine ⟨_, _, _, .inl (hrun _ rfl t1 t2), ?_, t4, t5⟩
                    exact .slice (i := ⟨i.blk, i.sh + q, z.length, (c' - (len + m)) * z.length⟩) put_head (Nat.le_refl _) hfits (Nat.le_refl _) (.inl (by simp; omega))
                  · rw [if_neg hend] at e
                    simp at e; obtain ⟨rfl, rfl⟩ := e
                    obtain ⟨t1, t2, t3, t4, t5⟩ := grow_rel (h1 := kill h (b :: anc)) (anc' := []) r hib hx hol f1 h1 (by omega) (kill_size _ _)
                      (by
                        intro c y hy
                        rw [kill_get] at hy
                        split at hy
                        · cases hy; exact .inl rfl
                        · rename_i hn
                          have hcb : c ≠ b := fun e0 => hn ⟨by simp [e0], by rw [e0]; exact r.dom _ _ hib⟩
                          exact .inr (.inl ⟨hcb, hy⟩))
                      (by
                        intro c hc0
                        rw [kill_get, if_neg]
                        rintro ⟨hm1, _⟩
                        rcases List.mem_cons.1 hm1 with rfl | hm2
                        · rw [hib] at hc0; cases hc0
                        · exact r.anc b i _ c hib hx (by simpa [Blk.ancs] using hm2) hc0)
                      (by simp) (by
                        intro c y hy hyd hcc hcl
                        rw [kill_get, if_pos ⟨by simpa using hcc, hcl⟩] at hy
                        cases hy; simp [Blk.isDead] at hyd) ((c' - (len + m)) * z.length) hrm _ rfl
                    refine ⟨_, _, _, .inl (hrun _ rfl t1 t2), ?_, t4, t5⟩
                    exact .slice (i := ⟨i.blk, i.sh + q, z.length, (c' - (len + m)) * z.length⟩) put_head (Nat.le_refl _) hfits (Nat.le_refl _) (.inl (by simp; omega))
                · -- a new row
                  have hold : ∃ old', VRs ρ ((cs.drop q).take (len * z.length)) old' ∧ (Builtin.firstCells it.size len (.slice (some ⟨i.blk, o', none⟩) len c')).run P w.drew = .ok old'.toArray w.drew := by
                    by_cases hl0 : len = 0
                    · subst hl0
                      exact ⟨[], by simp; exact .nil, by simp [Builtin.firstCells, loadCells, loadCellsFrom]⟩
                    · have ho' : o' = q + i.sh := by rcases q4 with q4 | q4 <;> omega
                      subst ho'
                      have hrd : rd h b q (len * z.length) = some ((cs.drop q).take (len * z.length)) := by
                        unfold rd; rw [hx]; simp [hol]
                      obtain ⟨y1, l', y2, y3⟩ := rd_rel r hib hrd
                      refine ⟨l', y2, ?_⟩
                      exact run_firstCells_some w.drew it.size len ⟨i.blk, q + i.sh, none⟩ len c' l' (by rw [← y2.length, y1, his]) (fun j v hv => by rw [Addr.add_mid]; exact y3 j v hv)
                  obtain ⟨old', y1, y2⟩ := hold
                  have hol' := y1.length
                  rw [holdlen] at hol'
                  have hfit := growslice_fits (need := len + m) (old := c') (bytes := it.bytes) (by omega) (by rw [hb]; exact hbnd)
                  have hrun := run_append_grow_src (P := P) w t tx o.type el it zv ht hi hzz (some ⟨i.blk, o', none⟩) len c' old' y2 (a.eval x) m new' f2 (by omega) (by omega) (by simpa using hfit)
                  have hge := grownCap_ge w (len + m) c' el
                  generalize grownCap w (len + m) c' el = cap at *
                  have hzc : (Builtin.zeroCells zv.cells (cap - (len + m))).size = (cap - (len + m)) * z.length := by
                    simp [Builtin.zeroCells, ← g2]
                  have hrunx : (execOp a.eval o).run P w = .ok (.value (.slice (some ⟨w.heap.size, 0, none⟩) (len + m) cap)) (w.drew.alloc (.cells ((old' ++ new').toArray ++ Builtin.zeroCells zv.cells (cap - (len + m))) el)) := by
                    simp only [execOp, ho, resolve, invoke, builtin, Sem.run_bind, Sem.run_pure, Result.andThen_ok]
                    simp [e1, hrun]
                  have hvs : VRs ρ ((cs.drop q).take (len * z.length) ++ new) (((old' ++ new').toArray ++ Builtin.zeroCells zv.cells (cap - (len + m))).toList.take ((cs.drop q).take (len * z.length) ++ new).length) := by
                    have hll : ((cs.drop q).take (len * z.length) ++ new).length = (old' ++ new').length := (y1.append f1).length
                    rw [hll]
                    simp only [Array.toList_append, List.take_left']
                    simpa using y1.append f1
                  have hsz2 : ((cs.drop q).take (len * z.length) ++ new).length + (cap - (len + m)) * z.length ≤ ((old' ++ new').toArray ++ Builtin.zeroCells zv.cells (cap - (len + m))).size := by
                    have hll : ((cs.drop q).take (len * z.length) ++ new).length = (old' ++ new').length := (y1.append f1).length
                    rw [hll, Array.size_append, hzc]; simp
                  by_cases hend : q + len * z.length = cs.length
                  · rw [if_pos hend] at e
                    simp at e; obtain ⟨rfl, rfl⟩ := e
                    obtain ⟨s1, s2⟩ := seal_rel r hib hx
                    have hs1 : (h.setIfInBounds b (.cells cs z.length false anc)).size = h.size := by simp
                    obtain ⟨r1, r2⟩ := row_rel s1.drew _ _ el z.length true (b :: anc)
                      (by
                        intro y hy
                        rcases List.mem_cons.1 hy with rfl | hy
                        · rw [hib]; simp
                        · exact r.anc b i _ y hib hx (by simpa [Blk.ancs] using hy)) _ hvs hsz2 _ rfl
                    refine ⟨_, _, _, .inl hrunx, ?_, r1, Ext.trans r s2 ⟨r2.le, r2.hsz, r2.wsz, r2.af, r2.cf, r2.nw, r2.dull, r2.io⟩⟩
                    exact .slice (i := ⟨w.heap.size, 0, z.length, (cap - (len + m)) * z.length⟩) (by rw [← hs1]; exact put_head) (Nat.le_refl _) (by omega) (Nat.le_refl _) (.inl rfl)
                  · rw [if_neg hend] at e
                    simp at e; obtain ⟨rfl, rfl⟩ := e
                    obtain ⟨s1, s2⟩ := kill_rel r (b :: anc) (by
                        intro y hy
                        rcases List.mem_cons.1 hy with rfl | hy
                        · rw [hib]; simp
                        · exact r.anc b i _ y hib hx (by simpa [Blk.ancs] using hy))
                    have hs1 : (kill h (b :: anc)).size = h.size := kill_size _ _
                    obtain ⟨r1, r2⟩ := row_rel s1.drew _ _ el z.length true [] (by simp) _ hvs hsz2 _ rfl
                    refine ⟨_, _, _, .inl hrunx, ?_, r1, Ext.trans r s2 ⟨r2.le, r2.hsz, r2.wsz, r2.af, r2.cf, r2.nw, r2.dull, r2.io⟩⟩
                    exact .slice (i := ⟨w.heap.size, 0, z.length, (cap - (len + m)) * z.length⟩) (by rw [← hs1]; exact put_head) (Nat.le_refl _) (by omega) (Nat.le_refl _) (.inl rfl)
              · cases e
            · cases e
          · cases e
    · cases e

end Go.Ev
