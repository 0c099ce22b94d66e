/- Ev15: functions: a table of them, and what a call answers. -/
import Derived.Test.YtefbpobeclkbhaaEv14
set_option linter.unusedSimpArgs false
set_option linter.unusedVariables false
namespace Go.Ev
variable {P : Program} {ρ : Ren} {h : H} {a : Act} {w : World} {s : Env} {n : Nat} {cf : CF}

inductive ARes where
  | tmp (t : Nat)
  | cell1 (t : Nat)
  | cellN (t n : Nat)
  deriving Inhabited

structure AFn where
  ntmps : Nat
  body : ACode
  results : List ARes
  deriving Inhabited

def evRes1 (s : Env) (h : H) : ARes → Option Value
  | .tmp t => some (s.get t)
  | .cell1 t => match s.get t with
    | .pointer (some ⟨b, o, none⟩) => (rd h b o 1).bind one?
    | _ => none
  | .cellN t m => match s.get t with
    | .pointer (some ⟨b, o, none⟩) => (rd h b o m).map fun l => .agg ⟨l⟩
    | _ => none

def evResL (s : Env) (h : H) : List ARes → Option (List Value)
  | [] => some []
  | x :: r => match evRes1 s h x, evResL s h r with
    | some v, some l => some (v :: l)
    | _, _ => none

def packRes : List Value → Value
  | [v] => v
  | l => .tuple ⟨l⟩

/-- The end of a function: the deferred calls, then the results. -/
def evEnd (cf : CF) (rs : List ARes) (s : Env) : Ds → H → Res
  | [], h => (evResL s h rs).map fun l => (packRes l, h)
  | d :: ds, h => match cf d.fn d.args h with
    | some (_, h') => evEnd cf rs s ds h'
    | none => none

def envOf : Nat → List Value → Env
  | _, [] => []
  | i, v :: r => (i, v) :: envOf (i + 1) r

/-- Deferred calls are such alone whose answers are told otherwise. -/
def cfX (X : FuncId → Option (List Value → H → Res)) : CF := fun f args h => match X f with
  | some x => x args h
  | none => none

/-- What a function answers. X: functions whose answers are told otherwise. -/
def evFn (X XD : FuncId → Option (List Value → H → Res)) (tbl : FuncId → Option AFn) : Nat → CF
  | 0 => fun _ _ _ => none
  | F + 1 => fun f args h =>
    match X f with
    | some x => x args h
    | none => match tbl f with
      | none => none
      | some fn =>
        if args.length ≤ fn.ntmps then
          let kr : K := fun s h ds => evEnd (cfX XD) fn.results s ds h
          evC F (evFn X XD tbl F) fn.body kr (fun _ _ _ _ => none) kr (envOf 0 args) h []
        else none

def compRes (P : Program) : ResultVar → Option ARes
  | .tmp t => some (.tmp t)
  | .cell t ty => match isRowB P ty with
    | some false => some (.cell1 t)
    | some true => (szOf P ty).map fun m => .cellN t m
    | none => none

def compResL (P : Program) : List ResultVar → Option (List ARes)
  | [] => some []
  | x :: r => match compRes P x, compResL P r with
    | some v, some l => some (v :: l)
    | _, _ => none

/-- A function of the program, compact. -/
def compFn (P : Program) (fn : Func) (ks : List (List Nat)) : Option AFn :=
  match fn.body with
  | some c => match compC P fn.ntmps c ks, compResL P fn.results.toList with
    | some (ac, _), some rs => if fn.name != "runtime.NumGoroutine" then some ⟨fn.ntmps, ac, rs⟩ else none
    | _, _ => none
  | none => none

def resOf (tmps : Array Value) : ResultVar → Sem Value
  | .tmp t => pure (tmps.getD t undef)
  | .cell a t => do loadVar t (← asAddr (tmps.getD a undef))

theorem res1_sound (r : Rel ρ h w) {tmps : Array Value} (he : EnvRel ρ n s tmps) {x : ResultVar} {y : ARes} (hc : compRes P x = some y) {v : Value} (e : evRes1 s h y = some v) :
    ∃ v', (resOf tmps x).run P w = .ok v' w ∧ VR ρ v v' := by
  cases x with
  | tmp t =>
    simp [compRes] at hc; subst hc
    simp [evRes1] at e; subst e
    exact ⟨_, by simp [resOf], he.2 t⟩
  | cell t ty =>
    simp only [compRes] at hc
    split at hc
    · rename_i hb
      cases hc
      simp only [evRes1] at e
      split at e
      · rename_i b o hx
        have hv := he.2 t
        rw [hx] at hv
        obtain ⟨i, hi, e1⟩ := hv.ptr_inv
        cases hl : rd h b o 1 with
        | none => rw [hl] at e; cases e
        | some l =>
          rw [hl] at e
          obtain ⟨g1, l', g2, g3⟩ := rd_rel r hi hl
          obtain ⟨u, rfl⟩ := single g1
          simp [one?] at e; subst e
          cases g2 with
          | cons hv' ht =>
            rename_i v' _
            have hcell := g3 0 v' (by simp)
            simp only [Nat.add_zero] at hcell
            refine ⟨v', ?_, hv'⟩
            simp only [resOf, e1, asAddr, Sem.run_bind, Sem.run_pure, Result.andThen_ok, loadVar, run_isAgg (w := w) hb]
            simp [load, Sem.run, hcell]
      · cases e
    · rename_i hb
      obtain ⟨m, hm, hf⟩ := Option.map_eq_some_iff.1 hc
      cases hf
      simp only [evRes1] at e
      split at e
      · rename_i b o hx
        have hv := he.2 t
        rw [hx] at hv
        obtain ⟨i, hi, e1⟩ := hv.ptr_inv
        obtain ⟨l, hl, hf⟩ := Option.map_eq_some_iff.1 e
        cases hf
        obtain ⟨g1, l', g2, g3⟩ := rd_rel r hi hl
        have hlen : l'.length = m := by rw [← g2.length]; exact g1
        have hld : (loadCells ⟨i.blk, o + i.sh, none⟩ m).run P w = .ok l'.toArray w := by
          rw [← hlen]; exact run_loadCells_list w _ l' (fun j v hv => by rw [Addr.add_mid]; exact g3 j v hv)
        refine ⟨_, ?_, .agg g2⟩
        simp only [resOf, e1, asAddr, Sem.run_bind, Sem.run_pure, Result.andThen_ok, loadVar, run_isAgg (w := w) hb, if_true, run_sizeOf' (w := w) hm, hld]
      · cases e
    · cases hc

theorem resL_sound (r : Rel ρ h w) {tmps : Array Value} (he : EnvRel ρ n s tmps) : ∀ {xs : List ResultVar} {ys : List ARes}, compResL P xs = some ys → ∀ {l : List Value}, evResL s h ys = some l →
    ∃ l', (xs.mapM (resOf tmps)).run P w = .ok l' w ∧ VRs ρ l l'
  | [], ys, hc, l, e => by
    simp [compResL] at hc; subst hc
    simp [evResL] at e; subst e
    exact ⟨[], by simp, .nil⟩
  | x :: xs, ys, hc, l, e => by
    unfold compResL at hc
    split at hc
    · rename_i y ys' hy hys
      cases hc
      unfold evResL at e
      split at e
      · rename_i v l' hv hl'
        cases e
        obtain ⟨v', g1, g2⟩ := res1_sound r he hy hv
        obtain ⟨l2, g3, g4⟩ := resL_sound r he hys hl'
        refine ⟨v' :: l2, ?_, .cons g2 g4⟩
        rw [List.mapM_cons, Sem.run_bind, g1]
        simp only [Result.andThen_ok, Sem.run_bind, g3, Sem.run_pure]
      · cases e
    · cases hc

theorem results_sound (r : Rel ρ h w) {tmps : Array Value} (he : EnvRel ρ n s tmps) {fn : Func} {rs : List ARes} (hc : compResL P fn.results.toList = some rs) {l : List Value} (e : evResL s h rs = some l) :
    ∃ v', (results fn tmps).run P w = .ok v' w ∧ VR ρ (packRes l) v' := by
  obtain ⟨l', g1, g2⟩ := resL_sound r he hc e
  have hm : (fn.results.mapM (resOf tmps)).run P w = .ok ⟨l'⟩ w := by
    rw [Array.mapM_eq_mapM_toList]
    simp [g1]
  have hres : results fn tmps = (do
      let vs ← fn.results.mapM (resOf tmps)
      pure (if h : vs.size = 1 then vs[0] else .tuple vs)) := by
    unfold results
    congr
  refine ⟨packRes l', ?_, ?_⟩
  · rw [hres, Sem.run_bind, hm]
    match l' with
    | [] => simp [packRes]
    | [v] => simp [packRes]
    | a :: b :: l => simp [packRes]
  · cases g2 with
    | nil => exact .tuple .nil
    | cons h t =>
      cases t with
      | nil => exact h
      | cons h2 t2 => exact .tuple (.cons h (.cons h2 t2))

theorem envOf_get : ∀ (l : List Value) (i t : Nat), (envOf i l).get t = if i ≤ t ∧ t < i + l.length then l.getD (t - i) junk else junk
  | [], i, t => by
    simp only [envOf, Env.get, List.length_nil]
    rw [if_neg (by omega)]
  | v :: l, i, t => by
    simp only [envOf, Env.get, List.length_cons]
    by_cases hit : i = t
    · subst hit; simp
    · have hb : (i == t) = false := by simpa using hit
      rw [hb, cond_false, envOf_get l (i + 1) t]
      by_cases hc : i + 1 ≤ t ∧ t < i + 1 + l.length
      · rw [if_pos hc, if_pos (by omega)]
        rw [show t - i = (t - (i + 1)) + 1 by omega]
        simp
      · rw [if_neg hc, if_neg (by omega)]

theorem EnvRel.start {args args' : List Value} (hv : VRs ρ args args') (hn : args.length ≤ n) : EnvRel ρ n (envOf 0 args) (⟨args'⟩ ++ Array.replicate (n - args'.length) undef : Array Value) := by
  have hl := hv.length
  refine ⟨by simp; omega, fun t => ?_⟩
  rw [envOf_get]
  by_cases hc : 0 ≤ t ∧ t < 0 + args.length
  · rw [if_pos hc]
    have ht : t < args.length := by omega
    obtain ⟨v', g1, g2⟩ := hv.get (i := t) (v := args[t]) (by simp [ht])
    have e1 : args.getD (t - 0) junk = args[t] := by simp [List.getD_eq_getElem?_getD, ht]
    have e2 : (⟨args'⟩ ++ Array.replicate (n - args'.length) undef : Array Value).getD t undef = v' := by
      rw [Array.getD_eq_getD_getElem?, Array.getElem?_append_left (by simp; omega)]
      simp [g1]
    rw [e1, e2]; exact g2
  · rw [if_neg hc]; exact .junk _

/-- The end of a function's body. -/
theorem leaves_sound (hcd : CallDOk P cf) {fn : Func} {rs : List ARes} (hrs : compResL P fn.results.toList = some rs) {tmps : Array Value} {res : Value × H} {ρ0 : Ren} {h0 : H} {w0 : World} (r0 : Rel ρ0 h0 w0) :
    ∀ (ds : Ds) (l : List Deferred) (ρ : Ren) (h : H) (w : World), Rel ρ h w → EnvRel ρ n s tmps → DsRel ρ ds l → Ext ρ0 h0 w0 ρ h w → evEnd cf rs s ds h = some res →
    Leaves P fn tmps (CallPost ρ0 h0 w0 res.1 res.2) l .returning w
  | [], l, ρ, h, w, r, he, hd, x, e => by
    cases hd
    simp only [evEnd] at e
    obtain ⟨l, hl, hf⟩ := Option.map_eq_some_iff.1 e
    cases hf
    obtain ⟨v', g1, g2⟩ := results_sound r he hrs hl
    exact ⟨v', g1, v', ρ, rfl, g2, r, x⟩
  | d :: ds, l, ρ, h, w, r, he, hd, x, e => by
    cases hd with
    | cons hv t =>
      rename_i cap' args' l
      simp only [evEnd] at e
      split at e
      · rename_i v1 h1 hcall
        obtain ⟨hc1, hc2⟩ := hcd _ _ _ _ _ hcall
        refine leaves_cons (by simp) (f := d.fn) (args := ⟨args' ++ cap'⟩) ?_ ?_
        · simp only [invoke]
          rw [run_callFunc hc1]
          have harr : (⟨args'⟩ ++ ⟨cap'⟩ : Array Value) = ⟨args' ++ cap'⟩ := by apply Array.ext'; simp
          rw [harr]
        · refine (hc2 ρ w _ .returning r hv).mono ?_
          rintro e' u' w' ⟨rfl, v', ρ', rfl, g1, g2, g3⟩
          exact leaves_sound hcd hrs r0 ds l ρ' h1 w' g2 (he.mono g3.le) (t.mono g3.le) (Ext.trans r0 x g3) e
      · cases e

/-- The table is the program's. -/
def TblOk (P : Program) (tbl : FuncId → Option AFn) : Prop := ∀ f af, tbl f = some af → ∃ fn ks, P.funcs[f]? = some fn ∧ compFn P fn ks = some af

def XOk (P : Program) (X : FuncId → Option (List Value → H → Res)) : Prop :=
  ∀ f x, X f = some x → CallOk P (fun g args h => if g = f then x args h else none)

theorem compFn_inv {fn : Func} {ks : List (List Nat)} {af : AFn} (hc : compFn P fn ks = some af) : ∃ c ac ks' rs, fn.body = some c ∧ compC P fn.ntmps c ks = some (ac, ks') ∧ compResL P fn.results.toList = some rs ∧ fn.name ≠ "runtime.NumGoroutine" ∧ af = ⟨fn.ntmps, ac, rs⟩ := by
  unfold compFn at hc
  split at hc
  · rename_i c hb
    split at hc
    · rename_i ac ks' rs h1 h2
      split at hc
      · rename_i hname
        cases hc
        exact ⟨c, ac, ks', rs, hb, h1, h2, by simpa using hname, rfl⟩
      · cases hc
    · cases hc
  · cases hc

theorem evFn_sound (hm : P.follows .mixedOrders = true) {X XD : FuncId → Option (List Value → H → Res)} {tbl : FuncId → Option AFn} (ht : TblOk P tbl) (hx : XOk P X) (hxd : CallDOk P (cfX XD)) : ∀ F, CallOk P (evFn X XD tbl F) := by
  intro F
  induction F with
  | zero =>
    intro f args h r h' e
    cases e
  | succ F ih1 =>
    have main : ∀ f args h r h', (X f = none) → evFn X XD tbl (F + 1) f args h = some (r, h') → callable P f = true ∧ ∀ ρ w args', Rel ρ h w → VRs ρ args args' →
        ∃ fn c, P.funcs[f]? = some fn ∧ fn.body = some c ∧ c.wp P (fun ex a w' => match ex with
          | .normal | .ret => ∃ rs s ds ρ' h2, compResL P fn.results.toList = some rs ∧ Rel ρ' h2 w' ∧ EnvRel ρ' fn.ntmps s a.tmps ∧ DsRel ρ' ds a.defers ∧ Ext ρ h w ρ' h2 w' ∧ evEnd (cfX XD) rs s ds h2 = some (r, h')
          | _ => False) { tmps := ⟨args'⟩ ++ Array.replicate (fn.ntmps - (⟨args'⟩ : Array Value).size) undef, defers := [] } w := by
      intro f args h r h' hX e
      simp only [evFn, hX] at e
      split at e
      · cases e
      · rename_i af haf
        obtain ⟨fn, ks, hf, hc⟩ := ht f af haf
        obtain ⟨c, ac, ks', rs, hb, h1, h2, h3, rfl⟩ := compFn_inv hc
        split at e
        · rename_i hlen
          refine ⟨?_, ?_⟩
          · unfold callable
            rw [hf]
            simp [hb, h3]
          · intro ρ w args' r0 hv
            refine ⟨fn, c, hf, hb, ?_⟩
            refine wp_mono (evC_sound hm ih1 F (r, h') c ks ac ks' h1 _ _ _ ρ h { tmps := ⟨args'⟩ ++ Array.replicate (fn.ntmps - (⟨args'⟩ : Array Value).size) undef, defers := [] } w (envOf 0 args) [] r0 (EnvRel.start hv hlen) .nil e) ?_
            intro ex a w' hq
            cases ex with
            | normal =>
              obtain ⟨ρ', s, h2', ds, g1, g2, g3, g4, g5⟩ := hq
              exact ⟨rs, s, ds, ρ', h2', h2, g1, g2, g3, g4, g5⟩
            | ret =>
              obtain ⟨ρ', s, h2', ds, g1, g2, g3, g4, g5⟩ := hq
              exact ⟨rs, s, ds, ρ', h2', h2, g1, g2, g3, g4, g5⟩
            | exit i =>
              obtain ⟨ρ', s, h2', ds, g1, g2, g3, g4, g5⟩ := hq
              cases g5
            | _ => exact hq
        · cases e
    intro f args h r h' e
    cases hX : X f with
    | some x =>
      have := hx f x hX f args h r h'
      simp only [evFn, hX] at e
      simp only [if_true] at this
      exact this e
    | none =>
      obtain ⟨g1, g2⟩ := main f args h r h' hX e
      refine ⟨g1, fun ρ w args' r0 hv => ?_⟩
      obtain ⟨fn, c, hf, hb, hwp⟩ := g2 ρ w args' r0 hv
      refine calls_of_wp_defers hf hb (wp_mono hwp ?_)
      intro ex a w' hq
      cases ex with
      | normal =>
        obtain ⟨rs, s, ds, ρ', h2, q1, q2, q3, q4, q5, q6⟩ := hq
        exact leaves_sound hxd q1 r0 ds a.defers ρ' h2 w' q2 q3 q4 q5 q6
      | ret =>
        obtain ⟨rs, s, ds, ρ', h2, q1, q2, q3, q4, q5, q6⟩ := hq
        exact leaves_sound hxd q1 r0 ds a.defers ρ' h2 w' q2 q3 q4 q5 q6
      | _ => exact hq.elim

end Go.Ev
