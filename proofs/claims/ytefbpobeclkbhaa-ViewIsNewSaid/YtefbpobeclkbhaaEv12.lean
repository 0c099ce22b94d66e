/- Ev12: code: regions in the order of the text, branches, loops, calls, deferred calls. -/
import Derived.Test.YtefbpobeclkbhaaEv11
import Derived.LoopN
import Derived.Tactics
set_option linter.unusedSimpArgs false
set_option linter.unusedVariables false
namespace Go.Ev

abbrev CF := FuncId → List Value → H → Option (Value × H)

inductive AAct where
  | op (o : AOp)
  | call (f : Operand) (args : List Operand)
  deriving Inhabited

structure AOper where
  dst : Option Nat
  guard : Option (Nat × Bool)
  act : AAct
  deriving Inhabited

/-- A deferred call. -/
structure ADef where
  fn : FuncId
  args : List Value

/-- An operation of a region that draws its order: its number there, the slots that it looks at. -/
structure DOp where
  ix : Nat
  o : AOper
  slots : List Nat
  deriving Inhabited

inductive ACode where
  | skip
  | region (ops : List AOper) (keep : List Nat)
  | regionD (ops : List DOp) (wins : List (Nat × List Nat)) (keep : List Nat)
  | defer (pre : List AOper) (f : Operand) (args : List Operand) (keep : List Nat)
  | seq (a b : ACode)
  | cond (c : Operand) (a b : ACode)
  | block (id : Nat) (c : ACode)
  | loop (live : List Nat) (c : ACode)
  | exit (id : Nat)
  | ret
  deriving Inhabited

abbrev Res := Option (Value × H)
abbrev Ds := List ADef
abbrev K := Env → H → Ds → Res

def evAct (cf : CF) : AAct → Env → H → Option (Value × H)
  | .op o, s, h => evOp o s h
  | .call f args, s, h => match aeval s f with
    | .func (.func g) ⟨first⟩ ⟨cap⟩ => cf g (first ++ args.map (aeval s) ++ cap) h
    | _ => none

def setD (s : Env) : Option Nat → Value → Env
  | some d, v => (d, v) :: s
  | none, _ => s

/-- What an operation leaves that was not wanted. -/
def unset : Value := .tuple ⟨[]⟩

def evOper (cf : CF) (o : AOper) (s : Env) (h : H) (k : Env → H → Res) : Res :=
  match o.guard with
  | none => match evAct cf o.act s h with
    | some (v, h') => k (setD s o.dst v) h'
    | none => none
  | some (t, b) => match s.get t with
    | .bool c => bif c == b then
        match evAct cf o.act s h with
        | some (v, h') => k (setD s o.dst v) h'
        | none => none
      else k (setD s o.dst unset) h
    | .tuple ⟨[]⟩ => k (setD s o.dst unset) h
    | _ => none

def evOps (cf : CF) : List AOper → Env → H → (Env → H → Res) → Res
  | [], s, h, k => k s h
  | o :: os, s, h, k => evOper cf o s h fun s' h' => evOps cf os s' h' k

/-- One round of a loop after another. -/
def evLoop (body : K → K) : Nat → K
  | 0 => fun _ _ _ => none
  | f + 1 => body (evLoop body f)

def evDefer (s : Env) (f : Operand) (args : List Operand) : Option ADef :=
  match aeval s f with
  | .func (.func g) ⟨first⟩ ⟨cap⟩ => some ⟨g, first ++ args.map (aeval s) ++ cap⟩
  | _ => none

/-- One operation of a drawn region, as it went in the order of the text. -/
structure TR where
  env : Env
  hin : H
  ran : Bool
  val : Value

def wantedA (g : Option (Nat × Bool)) (s : Env) : Option Bool :=
  match g with
  | none => some true
  | some (t, b) => match s.get t with
    | .bool c => some (c == b)
    | .tuple ⟨[]⟩ => some false
    | _ => none

def trace (cf : CF) : List DOp → Env → H → Option (List TR × Env × H)
  | [], s, h => some ([], s, h)
  | d :: ds, s, h => match wantedA d.o.guard (s.keep d.slots) with
    | none => none
    | some false => match trace cf ds (setD s d.o.dst unset) h with
      | some (l, s2, h2) => some (⟨s.keep d.slots, h, false, unset⟩ :: l, s2, h2)
      | none => none
    | some true => match evAct cf d.o.act (s.keep d.slots) h with
      | some (v, h1) => match trace cf ds (setD s d.o.dst v) h1 with
        | some (l, s2, h2) => some (⟨s.keep d.slots, h, true, v⟩ :: l, s2, h2)
        | none => none
      | none => none

def hAt (ts : List TR) (h1 : H) (k : Nat) : H := match ts[k]? with
  | some t => t.hin
  | none => h1

def sameCell : Value → Value → Bool
  | .int k a, .int k' b => k == k' && a == b
  | .string a, .string b => a == b
  | .bool a, .bool b => a == b
  | .pointer a, .pointer b => a == b
  | .slice a n c, .slice b n' c' => a == b && n == n' && c == c'
  | .map a, .map b => a == b
  | .nilFunc, .nilFunc => true
  | .nilIface, .nilIface => true
  | _, _ => false

def sameL : List Value → List Value → Bool
  | [], [] => true
  | a :: l, b :: m => sameCell a b && sameL l m
  | _, _ => false

def sameV : Value → Value → Bool
  | .agg ⟨l⟩, .agg ⟨m⟩ => sameL l m
  | .tuple ⟨l⟩, .tuple ⟨m⟩ => sameL l m
  | a, b => sameCell a b

/-- What is read beside a write: the same at another stage. -/
def chk1 (cf : CF) (d : DOp) (t : TR) (h : H) : Bool :=
  !t.ran || (match evAct cf d.o.act t.env h with
    | some (v, _) => sameV v t.val
    | none => false)

def chks (cf : CF) (ops : List DOp) (ts : List TR) (h1 : H) : List (Nat × List Nat) → Bool
  | [] => true
  | (x, ps) :: r => (match ops[x]?, ts[x]? with
    | some d, some t => ps.all fun p => chk1 cf d t (hAt ts h1 p)
    | _, _ => false) && chks cf ops ts h1 r

/-- A region that draws its order: the answer in one order; what is read beside a write is looked at at each stage. -/
def evRegionD (cf : CF) (ops : List DOp) (wins : List (Nat × List Nat)) (s : Env) (h : H) (k : Env → H → Res) : Res :=
  match trace cf ops s h with
  | some (ts, s1, h1) => if chks cf ops ts h1 wins = true then k s1 h1 else none
  | none => none

def evC (F : Nat) (cf : CF) : ACode → K → (Nat → K) → K → K
  | .skip, kn, _, _ => kn
  | .region ops keep, kn, _, _ => fun s h ds => evOps cf ops s h fun s' h' => kn (s'.keep keep) h' ds
  | .regionD ops wins keep, kn, _, _ => fun s h ds => evRegionD cf ops wins s h fun s' h' => kn (s'.keep keep) h' ds
  | .defer pre f args keep, kn, _, _ => fun s h ds => evOps cf pre s h fun s' h' => match evDefer s' f args with
    | some d => kn (s'.keep keep) h' (d :: ds)
    | none => none
  | .seq a b, kn, ke, kr => evC F cf a (evC F cf b kn ke kr) ke kr
  | .cond c a b, kn, ke, kr => fun s h ds => match aeval s c with
    | .bool true => evC F cf a kn ke kr s h ds
    | .bool false => evC F cf b kn ke kr s h ds
    | _ => none
  | .block id c, kn, ke, kr => evC F cf c kn (fun i => if i = id then kn else ke i) kr
  | .loop live c, _, ke, kr => fun s h ds => evLoop (fun again => evC F cf c (fun s h ds => again (s.keep live) h ds) ke kr) F (s.keep live) h ds
  | .exit id, _, ke, _ => ke id
  | .ret, _, _, kr => kr

/-! ### calls -/
def callable (P : Program) (f : FuncId) : Bool :=
  match P.funcs[f]? with
  | some fn => fn.name != "runtime.NumGoroutine" && fn.body.isSome
  | none => false

def CallPost (ρ : Ren) (h : H) (w : World) (r : Value) (h' : H) : Ending → World → Prop := fun e w' =>
  ∃ v' ρ', e = .returned v' ∧ VR ρ' r v' ∧ Rel ρ' h' w' ∧ Ext ρ h w ρ' h' w'

/-- The calls of cf are the program's. -/
def CallOk (P : Program) (cf : CF) : Prop :=
  ∀ f args h r h', cf f args h = some (r, h') → callable P f = true ∧ ∀ ρ w args', Rel ρ h w → VRs ρ args args' → Calls P f ⟨args'⟩ w (CallPost ρ h w r h')

/-- As deferred calls. -/
def CallDOk (P : Program) (cf : CF) : Prop :=
  ∀ f args h r h', cf f args h = some (r, h') → callable P f = true ∧ ∀ ρ w args' u, Rel ρ h w → VRs ρ args args' → CallsD P f ⟨args'⟩ u w (fun e u' w' => u' = u ∧ CallPost ρ h w r h' e w')

variable {P : Program} {ρ : Ren} {h : H} {a : Act} {w : World} {s : Env} {n : Nat} {cf : CF}

/-- What an operation leaves, whatever goes on behind it. -/
def OpWp (P : Program) (o : Oper) (a : Act) (w : World) (post : Value → World → Prop) : Prop :=
  ∀ (next : Act → World → Prop) (Q : Exit → Act → World → Prop), (∀ v w', post v w' → next (a.put o.dst v) w') → o.wp P a w next Q

theorem OpWp.of_does {o : Oper} {v : Value} {w' : World} {post : Value → World → Prop} (h : Does P o a w v w') (hp : post v w') : OpWp P o a w post := by
  intro next Q hn
  unfold Oper.wp
  rcases h with h | ⟨h, rfl⟩
  · rw [h]; exact hn _ _ hp
  · rw [h]; exact hn _ _ hp

def ActPost (ρ : Ren) (h : H) (w : World) (v : Value) (h' : H) : Value → World → Prop := fun v' w' => ∃ ρ', VR ρ' v v' ∧ Rel ρ' h' w' ∧ Ext ρ h w ρ' h' w'

theorem run_callFunc {f : FuncId} (hc : callable P f = true) (args : Array Value) : (callFunc f args).run P w = .ok (.enter f args) w := by
  unfold callable at hc
  cases hf : P.funcs[f]? with
  | none => rw [hf] at hc; cases hc
  | some fn =>
    rw [hf] at hc
    simp only [Bool.and_eq_true, bne_iff_ne, ne_eq] at hc
    obtain ⟨h1, h2⟩ := hc
    have h3 : ¬ fn.body = none := by cases hb : fn.body <;> simp [hb] at h2 ⊢
    simp [callFunc, hf, h1, h3]

def compAct (P : Program) (o : Op) : Option AAct :=
  match o with
  | .call { callee := .value f, args, .. } => some (.call f args.toList)
  | o => (compOp P o).map .op

theorem evAct_sound (o : Oper) {ac : AAct} (hc : compAct P o.op = some ac) (hcf : CallOk P cf) (r : Rel ρ h w) (he : EnvRel ρ n s a.tmps) {v : Value} {h' : H} (e : evAct cf ac s h = some (v, h')) : OpWp P o a w (ActPost ρ h w v h') := by
  have hop : (∃ ao, ac = .op ao ∧ compOp P o.op = some ao) ∨ (∃ f args ts, o.op = .call { callee := .value f, args := args, argTypes := ts } ∧ ac = .call f args.toList) := by
    unfold compAct at hc
    split at hc
    · rename_i f args ts hq
      cases hc
      exact .inr ⟨f, args, ts, hq, rfl⟩
    · obtain ⟨ao, h1, h2⟩ := Option.map_eq_some_iff.1 hc
      exact .inl ⟨ao, h2.symm, h1⟩
  rcases hop with ⟨ao, rfl, hao⟩ | ⟨f, args, ts, hop, rfl⟩
  · obtain ⟨v', ρ', w', h1, h2, h3, h4⟩ := evOp_sound o hao r he e
    exact OpWp.of_does h1 ⟨ρ', h2, h3, h4⟩
  · simp only [evAct] at e
    split at e
    · rename_i g first cap hf
      have hv := aeval_sound he f
      rw [hf] at hv
      obtain ⟨hc1, hc2⟩ := hcf g _ h v h' e
      generalize hev : a.eval f = fv at *
      cases hv
      rename_i fs' cs' hfs hcs
      have hargs := (hfs.append (aeval_map he args.toList)).append hcs
      intro next Q hn
      have hcall := hc2 ρ w _ r hargs
      have hrun : (execOp a.eval o).run P w = .ok (.enter g ⟨fs' ++ args.toList.map a.eval ++ cs'⟩) w := by
        simp only [execOp, hop, resolve, Sem.run_bind, hev, Deferred.ofValue, Sem.run_pure, Result.andThen_ok, invoke]
        rw [run_callFunc hc1]
        congr 2
        apply Array.ext'
        simp
      unfold Oper.wp
      rw [hrun, Oper.upon_enter]
      refine hcall.mono ?_
      rintro e' w' ⟨v', ρ', rfl, h1, h2, h3⟩
      exact hn _ _ ⟨ρ', h1, h2, h3⟩
    · cases e

/-! ### regions in the text's order -/
def compOper (P : Program) (n : Nat) (ops : Array Oper) (o : Oper) : Option AOper :=
  match compAct P o.op, (match o.dst with | some d => decide (d < n) | none => true) with
  | some ac, true =>
    match o.guard with
    | none => some ⟨o.dst, none, ac⟩
    | some (j, b) => match (ops[j]?).bind (·.dst) with
      | some t => some ⟨o.dst, some (t, b), ac⟩
      | none => none
  | _, _ => none

def compOpers (P : Program) (n : Nat) (ops : Array Oper) : List Oper → Option (List AOper)
  | [] => some []
  | o :: r => match compOper P n ops o, compOpers P n ops r with
    | some x, some l => some (x :: l)
    | _, _ => none

theorem compOper_inv {ops : Array Oper} {o : Oper} {x : AOper} (h : compOper P n ops o = some x) :
    compAct P o.op = some x.act ∧ x.dst = o.dst ∧ (∀ d, o.dst = some d → d < n) ∧ ((o.guard = none ∧ x.guard = none) ∨ ∃ j b t, o.guard = some (j, b) ∧ x.guard = some (t, b) ∧ (ops[j]?).bind (·.dst) = some t) := by
  unfold compOper at h
  split at h
  · rename_i ac hac hd
    have hd' : ∀ d, o.dst = some d → d < n := by
      intro d hd0
      rw [hd0] at hd
      simpa using hd
    split at h
    · rename_i hg
      cases h
      exact ⟨hac, rfl, hd', .inl ⟨hg, rfl⟩⟩
    · rename_i j b hg
      split at h
      · rename_i t ht
        cases h
        exact ⟨hac, rfl, hd', .inr ⟨j, b, t, hg, rfl, ht⟩⟩
      · cases h
  · cases h

theorem EnvRel.setD (he : EnvRel ρ n s a.tmps) {d : Option Nat} (hd : ∀ t, d = some t → t < n) {v v' : Value} (hv : VR ρ v v') : EnvRel ρ n (setD s d v) (a.put d v').tmps := by
  cases d with
  | none => exact he
  | some t => exact he.put hv (hd t rfl)

/-- The state of a walk, since (ρ0, h0, w0). -/
structure St (ρ0 : Ren) (h0 : H) (w0 : World) (n : Nat) (s : Env) (h : H) (a : Act) (w : World) : Prop where
  ex : ∃ ρ, Rel ρ h w ∧ EnvRel ρ n s a.tmps ∧ Ext ρ0 h0 w0 ρ h w

/-- One operation, as wanted or not. -/
theorem evOper_sound {ops : Array Oper} {o : Oper} {x : AOper} (hx : compOper P n ops o = some x) (hcf : CallOk P cf) (r : Rel ρ h w) (he : EnvRel ρ n s a.tmps) {k : Env → H → Res} {res : Value × H} (e : evOper cf x s h k = some res)
    {next : Act → World → Prop} {Q : Exit → Act → World → Prop}
    (hn : ∀ v v' ρ' h' w', k (Ev.setD s x.dst v) h' = some res → Rel ρ' h' w' → EnvRel ρ' n (Ev.setD s x.dst v) (a.put o.dst v').tmps → Ext ρ h w ρ' h' w' → next (a.put o.dst v') w') :
    if Region.wanted o (yielded ops a.tmps) then o.wp P a w next Q ∨ (o.asks P a w ∧ LetsOut Q) else next (a.put o.dst undef) w := by
  obtain ⟨g1, g2, g3, g4⟩ := compOper_inv hx
  have hrun : ∀ {v h'}, evAct cf x.act s h = some (v, h') → k (Ev.setD s x.dst v) h' = some res → o.wp P a w next Q := by
    intro v h' e1 e2
    refine evAct_sound o g1 hcf r he e1 next Q ?_
    rintro v' w' ⟨ρ', h1, h2, h3⟩
    refine hn v v' ρ' h' w' e2 h2 ?_ h3
    rw [g2]
    exact (he.mono h3.le).setD g3 h1
  unfold evOper at e
  rcases g4 with ⟨h1, h2⟩ | ⟨j, b, t, h1, h2, h3⟩
  · rw [h2] at e
    simp only at e
    have hw : Region.wanted o (yielded ops a.tmps) = true := by simp [Region.wanted, h1]
    rw [if_pos hw]
    split at e
    · rename_i v h' hv
      exact .inl (hrun hv e)
    · cases e
  · rw [h2] at e
    simp only at e
    split at e
    · rename_i c hc
      have hv := he.2 t
      rw [hc] at hv
      have hv' := hv.bool_inv
      have hget : a.tmps[t]? = some (.bool c) := by
        rw [Array.getD_eq_getD_getElem?] at hv'
        cases ht : a.tmps[t]? with
        | none => rw [ht] at hv'; simp [undef] at hv'
        | some q => rw [ht] at hv'; simp at hv'; rw [hv']
      have hy : yielded ops a.tmps j = some c := by simp [yielded, h3, hget]
      by_cases hcb : c = b
      · subst hcb
        have hw : Region.wanted o (yielded ops a.tmps) = true := by simp [Region.wanted, h1, hy]
        rw [if_pos hw]
        simp at e
        split at e
        · rename_i v h' hv
          exact .inl (hrun hv e)
        · cases e
      · have hw : Region.wanted o (yielded ops a.tmps) = false := by simp [Region.wanted, h1, hy, hcb]
        rw [if_neg (by simp [hw])]
        have hbeq : (c == b) = false := by simpa using hcb
        rw [hbeq] at e
        simp at e
        refine hn unset undef ρ h w e r ?_ (.refl _ _ _)
        rw [g2]
        exact he.setD g3 (.tuple .nil)
    · rename_i hc
      have hv := he.2 t
      rw [hc] at hv
      obtain ⟨l', hv', hl'⟩ := hv.tuple_inv
      cases hl'
      have hy : yielded ops a.tmps j = none := by
        unfold yielded
        rw [h3]
        rw [Array.getD_eq_getD_getElem?] at hv'
        cases ht : a.tmps[t]? with
        | none => simp [ht]
        | some q => rw [ht] at hv'; simp at hv'; simp [ht, hv']
      have hw : Region.wanted o (yielded ops a.tmps) = false := by simp [Region.wanted, h1, hy]
      rw [if_neg (by simp [hw])]
      refine hn unset undef ρ h w e r ?_ (.refl _ _ _)
      rw [g2]
      exact he.setD g3 (.tuple .nil)
    · cases e

theorem evOps_sound {ops : Array Oper} (hcf : CallOk P cf) {res : Value × H} {Q : Exit → Act → World → Prop} {k : Env → H → Res} {rest : List Oper} : ∀ (l : List Oper) (al : List AOper), compOpers P n ops l = some al →
    ∀ {ρ : Ren} {h : H} {a : Act} {w : World} {s : Env}, Rel ρ h w → EnvRel ρ n s a.tmps → evOps cf al s h k = some res →
    (∀ ρ' s' h' a' w', k s' h' = some res → Rel ρ' h' w' → EnvRel ρ' n s' a'.tmps → Ext ρ h w ρ' h' w' → a'.defers = a.defers → wpList P ops Q rest a' w') →
    wpList P ops Q (l ++ rest) a w
  | [], al, hal, ρ, h, a, w, s, r, he, e, hq => by
    simp [compOpers] at hal; subst hal
    exact hq ρ s h a w e r he (.refl _ _ _) rfl
  | o :: l, al, hal, ρ, h, a, w, s, r, he, e, hq => by
    unfold compOpers at hal
    split at hal
    · rename_i x al' hx hal'
      cases hal
      simp only [evOps] at e
      rw [List.cons_append, wpList]
      refine evOper_sound hx hcf r he e ?_
      intro v v' ρ1 h1 w1 e1 r1 he1 x1
      refine evOps_sound hcf l al' hal' r1 he1 e1 ?_
      intro ρ2 s2 h2 a2 w2 e2 r2 he2 x2 hdd
      refine hq ρ2 s2 h2 a2 w2 e2 r2 he2 (Ext.trans r x1 x2) (hdd.trans ?_)
      cases o.dst <;> rfl
    · cases hal

theorem wp_region_list {id : Nat} {ops : Array Oper} {Q : Exit → Act → World → Prop} (hw : wpList P ops Q ops.toList a w) : (Code.region id ops false).wp P Q a w := by
  refine wp_region ?_
  have := wpOps_eq_wpList (P := P) (ops := ops) (Q := Q) ops.toList 0 (fun j => by simp)
  rw [List.range_eq_range']
  simp only [Array.length_toList] at this
  rw [this]
  exact hw

end Go.Ev
