/- Ev13c: regions that draw their order: whatever the order. -/
import Derived.Test.YtefbpobeclkbhaaEv13b
set_option linter.unusedSimpArgs false
set_option linter.unusedVariables false
namespace Go.Ev
variable {P : Program} {ρ : Ren} {h : H} {a : Act} {w : World} {s : Env} {n : Nat} {cf : CF}
variable {dl : List DOp} {wins : List (Nat × List Nat)} {ops : Array Oper} {bef : Nat → Nat → Prop} {listed : Array Bool} {ρ0 : Ren} {h0 : H} {w0 : World} {s0 s1 : Env} {a0 : Act} {ts : List TR} {h1 : H} {p : Nat} {envAt : Nat → Env}

def leftOf (ops : Array Oper) (listed : Array Bool) : Nat := (List.range ops.size).countP fun i => !listed.getD i false

theorem countP_lt {α : Type} {p q : α → Bool} : ∀ {l : List α}, (∀ x ∈ l, q x = true → p x = true) → ∀ {y}, y ∈ l → p y = true → q y = false → l.countP q < l.countP p
  | x :: l, hle, y, hy, hp, hq => by
    have hmono : l.countP q ≤ l.countP p := List.countP_mono_left fun z hz => hle z (List.mem_cons_of_mem _ hz)
    rw [List.countP_cons, List.countP_cons]
    rcases List.mem_cons.1 hy with rfl | hy
    · simp [hp, hq]; omega
    · have ih := countP_lt (fun z hz => hle z (List.mem_cons_of_mem _ hz)) hy hp hq
      have hx := hle x (List.mem_cons_self ..)
      cases hqx : q x with
      | true => simp [hx hqx]; omega
      | false => simp; split <;> omega

theorem left_set {i : Nat} (hsz : listed.size = ops.size) (hi : i < ops.size) (hl : listed.getD i false = false) : leftOf ops (listed.setIfInBounds i true) < leftOf ops listed := by
  unfold leftOf
  refine countP_lt (y := i) ?_ (by simpa using hi) (by simp [hl]) ?_
  · intro x _ hx
    by_cases e : i = x
    · subst e; simp [hl]
    · rw [Array.getD_eq_getD_getElem?, Array.getElem?_setIfInBounds_ne e, ← Array.getD_eq_getD_getElem?] at hx
      exact hx
  · rw [Array.getD_eq_getD_getElem?, Array.getElem?_setIfInBounds_self_of_lt (by rw [hsz]; exact hi)]; rfl

theorem ready_mem {i : Nat} (hsz : listed.size = ops.size) : i ∈ Region.ready .any ops listed ↔ (i < ops.size ∧ listed.getD i false = false ∧ Free ops listed i) := by
  unfold Region.ready
  rw [List.mem_filter]
  simp only [List.mem_range, Bool.and_eq_true, Bool.not_eq_true']
  constructor
  · rintro ⟨hi, hl, hf⟩
    refine ⟨hi, ?_, ?_⟩
    · rw [Array.getD_eq_getD_getElem?] at hl ⊢
      have : i < listed.size := by omega
      simp [this] at hl ⊢; exact hl
    · intro o ho e he hb
      rw [ho] at hf
      simp only [Option.map_some, Option.getD_some] at hf
      have := (Array.all_eq_true_iff_forall_mem.1 hf) e (by simpa using he)
      simpa [hb] using this
  · rintro ⟨hi, hl, hf⟩
    refine ⟨hi, ?_, ?_⟩
    · rw [Array.getD_eq_getD_getElem?] at hl ⊢
      have : i < listed.size := by omega
      simp [this] at hl ⊢; exact hl
    · obtain ⟨o, ho⟩ : ∃ o, ops[i]? = some o := ⟨ops[i], by simp [hi]⟩
      rw [ho]
      simp only [Option.map_some, Option.getD_some]
      refine Array.all_eq_true_iff_forall_mem.2 fun e he => ?_
      cases hb : Region.binds .any e with
      | false => simp
      | true => simp [hf o ho e (by simpa using he) hb]

/-- Where none is free, all has been carried out. -/
theorem all_done (K : DOk P n ops dl wins bef) (hsz : listed.size = ops.size) (hr : Region.ready .any ops listed = []) : ∀ k, k < dl.length → Lst dl listed k := by
  intro k
  induction k using Nat.strongRecOn with
  | _ k ih =>
    intro hk
    obtain ⟨d, hd⟩ : ∃ d, dl[k]? = some d := ⟨dl[k], by simp [hk]⟩
    obtain ⟨o, ho, _⟩ := K.comp k d hd
    have hi : d.ix < ops.size := (Array.getElem?_eq_some_iff.1 ho).1
    apply Classical.byContradiction
    intro hn
    have hl : listed.getD d.ix false = false := by
      cases hc : listed.getD d.ix false with
      | false => rfl
      | true => exact absurd ⟨d, hd, hc⟩ hn
    have hf : Free ops listed d.ix := by
      intro o' ho' e he hb
      rw [ho] at ho'; cases ho'
      obtain ⟨j, d', hj, hdj, hix⟩ := K.edge k d o hd ho e he hb
      obtain ⟨d2, hd2, hl2⟩ := ih j hj (by omega)
      rw [hdj] at hd2; cases hd2
      rw [← hix]; exact hl2
    have : d.ix ∈ Region.ready .any ops listed := (ready_mem hsz).2 ⟨hi, hl, hf⟩
    rw [hr] at this
    cases this

theorem mid_any (K : DOk P n ops dl wins bef) (hcf : CallOk P cf) (q : Tr cf dl s0 h0 ts s1 h1 envAt) (r0 : Rel ρ0 h0 w0) (hchk : chks cf dl ts h1 wins = true) {Q : Exit → Act → World → Prop}
    (hq : ∀ ρ a w, Rel ρ h1 w → EnvRel ρ n s1 a.tmps → Ext ρ0 h0 w0 ρ h1 w → a.defers = a0.defers → Q .normal a w) : ∀ (fuel : Nat) (listed : Array Bool) (ρ : Ren) (p : Nat) (a : Act) (w : World),
    Mid P n cf ops dl ρ0 h0 w0 s0 a0 ts h1 listed ρ p a w → leftOf ops listed ≤ fuel → wpAny P .any ops Q fuel listed a w := by
  -- the end
  have fin : ∀ (listed : Array Bool) (ρ : Ren) (p : Nat) (a : Act) (w : World), Mid P n cf ops dl ρ0 h0 w0 s0 a0 ts h1 listed ρ p a w → Region.ready .any ops listed = [] → Q .normal a w := by
    intro listed ρ p a w M hr
    have hall := all_done K M.sz hr
    have hp : p = dl.length := by
      rcases Nat.lt_or_ge p dl.length with h2 | h2
      · exact absurd (hall p h2) (M.pw h2).2
      · exact Nat.le_antisymm M.ple h2
    subst hp
    have hh1 : hAt ts h1 dl.length = h1 := by simp [hAt, q.len]
    have hrel := M.rel
    have hext := M.ext
    rw [hh1] at hrel hext
    refine hq ρ a w hrel ⟨M.tsz, fun t => ?_⟩ hext M.dfs
    rw [← q.eN]
    obtain ⟨t1, t2⟩ := q.get K.dst t dl.length (Nat.le_refl _)
    by_cases hex : ∃ (j : Nat) (d : DOp), dl[j]? = some d ∧ d.o.dst = some t
    · obtain ⟨j, d, hj, hdt⟩ := hex
      have hjl : j < dl.length := (List.getElem?_eq_some_iff.1 hj).1
      have htj : ts[j]? = some (ts[j]'(by rw [q.len]; exact hjl)) := by simp [q.len, hjl]
      rw [t1 j d _ hjl hj htj hdt]
      exact M.on j d _ t hj htj (hall j hjl) hdt
    · rw [t2 fun j d _ hj hdt => hex ⟨j, d, hj, hdt⟩]
      exact M.off t fun k d hk _ hdt => hex ⟨k, d, hk, hdt⟩
  intro fuel
  induction fuel with
  | zero =>
    intro listed ρ p a w M hl
    have hr : Region.ready .any ops listed = [] := by
      apply List.eq_nil_iff_forall_not_mem.2
      intro i hi
      obtain ⟨h2, h3, _⟩ := (ready_mem M.sz).1 hi
      have : 0 < leftOf ops listed := by
        unfold leftOf
        rw [List.countP_pos_iff]
        exact ⟨i, by simpa using h2, by simp [h3]⟩
      omega
    exact ⟨hr, fin listed ρ p a w M hr⟩
  | succ fuel ih =>
    intro listed ρ p a w M hl
    refine ⟨fin listed ρ p a w M, ?_⟩
    intro i hi
    obtain ⟨h2, h3, h4⟩ := (ready_mem M.sz).1 hi
    obtain ⟨k, d, hk, rfl⟩ := K.onto i h2
    have hnl : ¬ Lst dl listed k := by
      rintro ⟨d2, hd2, hl2⟩
      rw [hk] at hd2; cases hd2
      rw [h3] at hl2; cases hl2
    refine mid_step K hcf q r0 hchk M hk hnl h4 ?_
    intro ρ' p' a' w' M'
    have := left_set M.sz h2 h3
    exact ih _ ρ' p' a' w' M' (by omega)

/-! ### the check -/
def predsD (ops : Array Oper) (dl : List DOp) (k : Nat) : List Nat :=
  match dl[k]? with
  | some d => match ops[d.ix]? with
    | some o => (o.after.toList.filter (Region.binds .any)).map fun e => dl.findIdx fun x => x.ix == e.on
    | none => []
  | none => []

/-- What is ahead of each, by whatever road. -/
def befsD (preds : List (List Nat)) : List (List Nat) := preds.foldl (fun acc ps => acc ++ [(List.range acc.length).filter fun j => ps.contains j || ps.any fun m => (acc.getD m []).contains j]) []

def clsB (c : Cls) (d : DOp) : Bool := clsAct d.o.act == c

def winOf (N : Nat) (W : List Nat) (bef : Nat → Nat → Bool) (x : Nat) : List Nat :=
  (W ++ [N]).filter fun p => (W.all fun q => !(q < p) || !bef q x) && (W.all fun q => !(p ≤ q) || !bef x q) && !((decide (x ≤ p)) && W.all fun q => !(decide (x ≤ q)) || decide (p ≤ q))

def okD (ops : Array Oper) (dl : List DOp) (preds befs : List (List Nat)) (wins : List (Nat × List Nat)) : Bool :=
  let N := dl.length
  let bef := fun x j => (befs.getD x []).contains j
  let R := List.range N
  let at' := fun k => dl.getD k default
  let W := R.filter fun k => clsB .w (at' k)
  (N == ops.size) &&
  (R.all fun k => preds.getD k [] == predsD ops dl k) &&
  ((List.range ops.size).all fun i => R.any fun k => (at' k).ix == i) &&
  (R.all fun k => R.all fun k' => !((at' k).ix == (at' k').ix) || k == k') &&
  (R.all fun k => (preds.getD k []).all fun j => decide (j < k)) &&
  (R.all fun x => (befs.getD x []).all fun j => (preds.getD x []).any fun j1 => decide (j1 < x) && (j1 == j || bef j1 j)) &&
  (R.all fun k => R.all fun k' => !((at' k).o.dst == (at' k').o.dst && (at' k).o.dst.isSome) || k == k') &&
  (R.all fun x => (at' x).slots.all fun t => R.all fun j => !((at' j).o.dst == some t) || (j == x || bef x j || bef j x)) &&
  (W.all fun q1 => W.all fun q2 => !(decide (q1 < q2)) || bef q2 q1) &&
  (R.all fun x => !(clsB .a (at' x)) || W.all fun q => !(decide (q < x)) || bef x q) &&
  (R.all fun x => !(clsB .r (at' x)) || (winOf N W bef x).all fun p => wins.any fun y => y.1 == x && y.2.contains p)

def slotsOf (x : AOper) : List Nat → List Nat := fun l => match x.guard with
  | some (t, _) => t :: l
  | none => l

def opTmps (o : Op) : List Nat := o.operands.toList.filterMap fun
  | .tmp t => some t
  | _ => none

def mkD (P : Program) (n : Nat) (ops : Array Oper) : List Nat → Option (List DOp)
  | [] => some []
  | i :: r => match ops[i]? with
    | some o => match compOper P n ops o, mkD P n ops r with
      | some x, some l => some (⟨i, x, slotsOf x (opTmps o.op)⟩ :: l)
      | _, _ => none
    | none => none

def isAllocOp (o : Op) : Bool := match o with
  | .alloc _ => true
  | _ => false

def ordD (ops : Array Oper) : List Nat :=
  let R := List.range ops.size
  (R.filter fun i => ((ops[i]?).map fun o => isAllocOp o.op).getD false) ++ (R.filter fun i => !((ops[i]?).map fun o => isAllocOp o.op).getD false)

def compD (P : Program) (n : Nat) (ops : Array Oper) : Option (List DOp × List (Nat × List Nat)) :=
  match mkD P n ops (ordD ops) with
  | some dl =>
    let preds := (List.range dl.length).map (predsD ops dl)
    let befs := befsD preds
    let N := dl.length
    let W := (List.range N).filter fun k => clsB .w (dl.getD k default)
    let wins := ((List.range N).filter fun k => clsB .r (dl.getD k default)).filterMap fun x =>
      match winOf N W (fun x j => (befs.getD x []).contains j) x with
      | [] => none
      | l => some (x, l)
    if okD ops dl preds befs wins = true then some (dl, wins) else none
  | none => none

theorem getD_of {k : Nat} {d : DOp} (h : dl[k]? = some d) : dl.getD k default = d := by rw [List.getD_eq_getElem?_getD, h]; rfl

theorem or_of {a b : Bool} (h : (!a || b) = true) (ha : a = true) : b = true := by rw [ha] at h; simpa using h

def BefP (dl : List DOp) (befs : List (List Nat)) (x j : Nat) : Prop := x < dl.length ∧ (befs.getD x []).contains j = true

theorem okD_sound {preds befs : List (List Nat)} (hm : ∀ (k : Nat) (d : DOp), dl[k]? = some d → ∃ o, ops[d.ix]? = some o ∧ compOper P n ops o = some d.o) (hok : okD ops dl preds befs wins = true) : DOk P n ops dl wins (BefP dl befs) := by
  unfold okD at hok
  simp only [Bool.and_eq_true, List.all_eq_true, List.mem_range, beq_iff_eq] at hok
  obtain ⟨⟨⟨⟨⟨⟨⟨⟨⟨⟨c1, c2⟩, c3⟩, c4⟩, c5⟩, c6⟩, c7⟩, c8⟩, c9⟩, c10⟩, c11⟩ := hok
  have lt : ∀ {k : Nat} {d : DOp}, dl[k]? = some d → k < dl.length := fun h => (List.getElem?_eq_some_iff.1 h).1
  have edge : ∀ (k : Nat) (d : DOp) (o : Oper), dl[k]? = some d → ops[d.ix]? = some o → ∀ e ∈ o.after.toList, Region.binds .any e = true → ∃ (j : Nat) (d' : DOp), j < k ∧ dl[j]? = some d' ∧ d'.ix = e.on ∧ j ∈ preds.getD k [] := by
    intro k d o hd ho e he hb
    have hj : (dl.findIdx fun x => x.ix == e.on) ∈ preds.getD k [] := by
      rw [c2 k (lt hd)]
      unfold predsD
      rw [hd]
      simp only [ho]
      exact List.mem_map.2 ⟨e, List.mem_filter.2 ⟨he, hb⟩, rfl⟩
    have hlt := c5 k (lt hd) _ hj
    simp at hlt
    have hjl : (dl.findIdx fun x => x.ix == e.on) < dl.length := by have := lt hd; omega
    refine ⟨_, dl[dl.findIdx fun x => x.ix == e.on], hlt, by simp [hjl], ?_, hj⟩
    have := List.findIdx_getElem (w := hjl)
    simpa using this
  have mW : ∀ q, isW dl q → q ∈ (List.range dl.length).filter fun k => clsB .w (dl.getD k default) := by
    rintro q ⟨d, hd, hc⟩
    refine List.mem_filter.2 ⟨by simpa using lt hd, ?_⟩
    rw [getD_of hd]; simp [clsB, hc]
  have mW' : ∀ q, q ∈ (List.range dl.length).filter (fun k => clsB .w (dl.getD k default)) → isW dl q := by
    intro q hq
    obtain ⟨h1, h2⟩ := List.mem_filter.1 hq
    have hql : q < dl.length := by simpa using h1
    have hd : dl[q]? = some dl[q] := by simp [hql]
    rw [getD_of hd] at h2
    exact ⟨_, hd, by simpa [clsB] using h2⟩
  refine ⟨c1, hm, ?_, ?_, ?_, ?_, ?_, ?_, ?_, ?_, ?_⟩
  · intro i hi
    have := c3 i hi
    rw [List.any_eq_true] at this
    obtain ⟨k, hk, hix⟩ := this
    have hkl : k < dl.length := by simpa using hk
    have hd : dl[k]? = some dl[k] := by simp [hkl]
    rw [getD_of hd] at hix
    exact ⟨k, _, hd, by simpa using hix⟩
  · intro k k' d d' hd hd' hix
    have := or_of (c4 k (lt hd) k' (lt hd')) (by rw [getD_of hd, getD_of hd']; simpa using hix)
    simpa using this
  · intro k d o hd ho e he hb
    obtain ⟨j, d', h1, h2, h3, _⟩ := edge k d o hd ho e he hb
    exact ⟨j, d', h1, h2, h3⟩
  · rintro x j ⟨hx, hb⟩
    have hj := c6 x hx j (by simpa using hb)
    rw [List.any_eq_true] at hj
    obtain ⟨j1, hj1, hc⟩ := hj
    simp only [Bool.and_eq_true, decide_eq_true_eq, Bool.or_eq_true, beq_iff_eq] at hc
    obtain ⟨hlt, hc⟩ := hc
    have hd : dl[x]? = some dl[x] := by simp [hx]
    obtain ⟨o, ho, _⟩ := hm x _ hd
    have hj1' := hj1
    rw [c2 x hx] at hj1'
    unfold predsD at hj1'
    rw [hd] at hj1'
    simp only [ho] at hj1'
    obtain ⟨e, he, heq⟩ := List.mem_map.1 hj1'
    obtain ⟨he1, he2⟩ := List.mem_filter.1 he
    have hj1l : j1 < dl.length := by omega
    refine ⟨dl[x], o, e, hd, ho, he1, he2, j1, dl[j1], by simp [hj1l], ?_, hlt, ?_⟩
    · subst heq
      have := List.findIdx_getElem (w := hj1l)
      simpa using this
    · rcases hc with hc | hc
      · exact .inl hc
      · exact .inr ⟨hj1l, hc⟩
  · intro k k' d d' t hd hd' ht ht'
    have := or_of (c7 k (lt hd) k' (lt hd')) (by rw [getD_of hd, getD_of hd', ht, ht']; simp)
    simpa using this
  · intro x d t hd ht j d' hd' hdt
    have := or_of (c8 x (lt hd) t (by rw [getD_of hd]; exact ht) j (lt hd')) (by rw [getD_of hd', hdt]; simp)
    simp only [Bool.or_eq_true, beq_iff_eq] at this
    rcases this with (h2 | h2) | h2
    · exact .inl h2
    · exact .inr (.inl ⟨lt hd, h2⟩)
    · exact .inr (.inr ⟨lt hd', h2⟩)
  · intro q1 q2 h1 h2 hlt
    have := or_of (c9 q1 (mW q1 h1) q2 (mW q2 h2)) (by simpa using hlt)
    obtain ⟨d, hd, _⟩ := h2
    exact ⟨lt hd, this⟩
  · rintro x q ⟨d, hd, hc⟩ hq hlt
    have h1 := or_of (c10 x (lt hd)) (by rw [getD_of hd]; simp [clsB, hc])
    rw [List.all_eq_true] at h1
    have := or_of (h1 q (mW q hq)) (by simpa using hlt)
    exact ⟨lt hd, this⟩
  · intro x d hd hc p hp hw1 hw2
    by_cases hnext : x ≤ p ∧ ∀ q, isW dl q → x ≤ q → p ≤ q
    · exact .inl hnext
    · refine .inr ?_
      have h1 := or_of (c11 x (lt hd)) (by rw [getD_of hd]; simp [clsB, hc])
      rw [List.all_eq_true] at h1
      have hmem : p ∈ winOf dl.length ((List.range dl.length).filter fun k => clsB .w (dl.getD k default)) (fun x j => (befs.getD x []).contains j) x := by
        unfold winOf
        refine List.mem_filter.2 ⟨?_, ?_⟩
        · rcases hp with rfl | hp
          · simp
          · exact List.mem_append.2 (.inl (mW p hp))
        · simp only [Bool.and_eq_true, List.all_eq_true, Bool.or_eq_true, Bool.not_eq_true']
          refine ⟨⟨?_, ?_⟩, ?_⟩
          · intro q hq
            by_cases hlt : q < p
            · refine .inr ?_
              have hqw := mW' q hq
              have := hw1 q hqw hlt
              obtain ⟨dq, hdq, _⟩ := hqw
              cases hb : (befs.getD q []).contains x with
              | false => rfl
              | true => exact absurd ⟨lt hdq, hb⟩ this
            · exact .inl (by simpa using hlt)
          · intro q hq
            by_cases hle : p ≤ q
            · refine .inr ?_
              have := hw2 q (mW' q hq) hle
              cases hb : (befs.getD x []).contains q with
              | false => rfl
              | true => exact absurd ⟨lt hd, hb⟩ this
            · exact .inl (by simpa using hle)
          · cases hbb : (decide (x ≤ p) && ((List.range dl.length).filter fun k => clsB .w (dl.getD k default)).all fun q => !decide (x ≤ q) || decide (p ≤ q)) with
            | false => rfl
            | true =>
              simp only [Bool.and_eq_true, List.all_eq_true, decide_eq_true_eq] at hbb
              refine absurd ⟨hbb.1, fun q hq hxq => ?_⟩ hnext
              have := or_of (hbb.2 q (mW q hq)) (by simpa using hxq)
              simpa using this
      have h2 := h1 p hmem
      rw [List.any_eq_true] at h2
      obtain ⟨y, hy, hc2⟩ := h2
      simp only [Bool.and_eq_true, beq_iff_eq] at hc2
      refine ⟨y.2, ?_, by simpa using hc2.2⟩
      rw [← hc2.1]; exact hy

theorem mkD_get : ∀ {l : List Nat} {dl : List DOp}, mkD P n ops l = some dl → ∀ (k : Nat) (d : DOp), dl[k]? = some d → ∃ o, ops[d.ix]? = some o ∧ compOper P n ops o = some d.o
  | [], dl, e, k, d, hk => by simp [mkD] at e; subst e; simp at hk
  | i :: r, dl, e, k, d, hk => by
    unfold mkD at e
    split at e
    · rename_i o ho
      split at e
      · rename_i x l hx hl
        cases e
        cases k with
        | zero => simp at hk; subst hk; exact ⟨o, ho, hx⟩
        | succ k => exact mkD_get hl k d (by simpa using hk)
      · cases e
    · cases e

theorem evRegionD_sound {id : Nat} {ops : Array Oper} {l : List DOp × List (Nat × List Nat)} (hm : P.follows .mixedOrders = true) (hc : compD P n ops = some l) (hcf : CallOk P cf) (r : Rel ρ h w) (he : EnvRel ρ n s a.tmps) {res : Value × H} {k : Env → H → Res}
    (e : evRegionD cf l.1 l.2 s h k = some res) {Q : Exit → Act → World → Prop}
    (hq : ∀ ρ' s' h' a' w', k s' h' = some res → Rel ρ' h' w' → EnvRel ρ' n s' a'.tmps → Ext ρ h w ρ' h' w' → a'.defers = a.defers → Q .normal a' w') : (Code.region id ops true).wp P Q a w := by
  unfold compD at hc
  split at hc
  · rename_i dl hdl
    simp only [] at hc
    split at hc
    · rename_i hok
      obtain ⟨dl', wins⟩ := l
      injection hc with hc
      injection hc with hc1 hc2
      subst hc1
      rw [hc2] at hok
      simp only at e
      have K := okD_sound (mkD_get hdl) hok
      unfold evRegionD at e
      split at e
      · rename_i ts s1 h1 htr
        split at e
        · rename_i hchk
          obtain ⟨envAt, q⟩ := trace_tr htr
          refine wp_region_any hm ?_
          have hrel : Rel ρ h { w with drawn := w.drawn + 1 } := r.drawn _
          have hback : ∀ {ρ' h' w'}, Ext ρ h { w with drawn := w.drawn + 1 } ρ' h' w' → Ext ρ h w ρ' h' w' := fun x => ⟨x.le, x.hsz, x.wsz, x.af, x.cf, x.nw, x.dull, x.io⟩
          obtain ⟨p', n1, n2, n3, n4⟩ := next_w dl dl.length 0 (by omega)
          obtain ⟨c1, c2, c3, c4⟩ := quiet_chain (ρ0 := ρ) (h0 := h) (w0 := { w with drawn := w.drawn + 1 }) q p' p' (m := 0) (by omega) n2 n4
          have hh0 : hAt ts h1 0 = h := q.h0
          have hnl : ∀ k, ¬ Lst dl (Array.replicate ops.size false) k := by
            rintro k ⟨d, hd, hl⟩
            rw [Array.getD_eq_getD_getElem?] at hl
            by_cases hi : d.ix < ops.size
            · simp [hi] at hl
            · simp [hi] at hl
          have M : Mid P n cf ops dl ρ h { w with drawn := w.drawn + 1 } s a ts h1 (Array.replicate ops.size false) ρ p' a { w with drawn := w.drawn + 1 } := by
            refine ⟨by simp, ?_, n2, fun hp => ⟨n3 hp, hnl p'⟩, ?_, c1 _ _ (by rw [hh0]; exact hrel), c2 _ _ (by rw [hh0]; exact .refl _ _ _), he.1, rfl, fun k d tr t _ _ hl _ => absurd hl (hnl k), fun t _ => he.2 t, ?_, ?_⟩
            · intro i o _ hl
              rw [Array.getD_eq_getD_getElem?] at hl
              by_cases hi : i < ops.size <;> simp [hi] at hl
            · intro q' hq'
              exact ⟨fun hl => absurd hl (hnl q'), fun hlt => by have := n4 q' hq' (Nat.zero_le _); omega⟩
            · intro j k' hj hk'
              obtain ⟨_, _, c5, _⟩ := quiet_chain (ρ0 := ρ) (h0 := h) (w0 := w) q (k' - j) k' (m := j) (by omega) (by omega) (fun z hz hz2 => by have := n4 z hz (Nat.zero_le _); omega)
              exact c5
            · intro k' tr hak htk hran _ hkp
              have hks : hAt ts h1 k' = tr.hin := hAt_of htk
              have hge : h.size ≤ tr.hin.size := by
                obtain ⟨_, _, c5, _⟩ := quiet_chain (ρ0 := ρ) (h0 := h) (w0 := w) q k' k' (m := 0) (by omega) (by omega) (fun z hz hz2 => by have := n4 z hz (Nat.zero_le _); omega)
                rw [hh0, hks] at c5; exact c5
              have hk1 : (hAt ts h1 (k' + 1)).size = (hAt ts h1 k').size + 1 := by
                obtain ⟨dk, hdk, hck⟩ := hak
                obtain ⟨_, _, _, _, s5⟩ := q.step k' dk tr hdk htk
                have s5 := s5 hran
                cases hact : dk.o.act with
                | call f args => rw [hact] at hck; simp [clsAct] at hck
                | op ao =>
                  rw [hact] at s5 hck
                  obtain ⟨z, _, _, hz, _⟩ := evOp_a hck s5
                  rw [hz, hks]; simp
              obtain ⟨_, _, c5, c6⟩ := quiet_chain (ρ0 := ρ) (h0 := h) (w0 := w) q (p' - (k' + 1)) p' (m := k' + 1) (by omega) n2 (fun z hz hz2 => n4 z hz (by omega))
              have hks2 := congrArg Array.size hks
              refine ⟨?_, by omega, c6 _ (by omega)⟩
              cases hz : ρ tr.hin.size with
              | none => rfl
              | some i => have := r.dom _ i hz; omega
          refine mid_any K hcf q hrel hchk ?_ ops.size _ ρ p' a _ M ?_
          · intro ρ' a' w' hr he' hx hd
            exact hq ρ' s1 h1 a' w' e hr he' (hback hx) hd
          · unfold leftOf
            exact Nat.le_trans List.countP_le_length (by simp)
        · cases e
      · cases e
    · cases hc
  · cases hc

end Go.Ev
