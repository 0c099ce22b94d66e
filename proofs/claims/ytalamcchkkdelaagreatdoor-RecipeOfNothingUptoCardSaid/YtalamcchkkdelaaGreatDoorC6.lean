/- Texts of the proofs over heraldlaw20, put together by a program (merge20.py): Ev12 Ev13 Ev13b Ev13c Ev14 Ev15. -/
import Derived.Test.YtalamcchkkdelaaGreatDoorC5
import Derived.LoopN
import Derived.Tactics
set_option linter.unusedVariables false
set_option linter.unusedSimpArgs false
namespace Go.Ev
abbrev CF := FuncId → List Value → H → Option (Value × H)
inductive AAct where
 | op (o : AOp)
 | call (f : Operand) (args : List Operand)
 | invoke (tbl : List (TypeId × FuncId)) (x : Operand) (args : List Operand)
 | panic (x : Operand)
 deriving Inhabited
def pv (x : Value) : Value := .tuple ⟨[.nilFunc,.nilIface,x]⟩
def isPan : Value → Bool
 | .tuple ⟨[.nilFunc,.nilIface,_]⟩ => true
 | _ => false
def panAct : AAct → Value → Bool
 | .op _,_ => false
 | _,v => isPan v
theorem isPan_inv {v : Value} (h : isPan v = true) : ∃ x,v = pv x := by
 unfold isPan at h
 split at h
 ·exact ⟨_,rfl⟩
 ·cases h
structure AOper where
 dst : Option Nat
 guard : Option (Nat × Bool)
 act : AAct
 deriving Inhabited
structure ADef where
 fn : FuncId
 args : List Value
structure DOp where
 ix : Nat
 o : AOper
 slots : List Nat
 pan : Bool
 deriving Inhabited
inductive ACode where
 | skip
 | region (ops : List AOper) (keep : List Nat)
 | regionD (ops : List DOp) (wins : List (Nat × List Nat)) (keep : List Nat)
 | defer (pre : List AOper) (f : Operand) (args : List Operand) (keep : List Nat)
 | seq (a b : ACode)
 | cond (c : Operand) (a b : ACode)
 | block (id : Nat) (c : ACode)
 | loop (live : List Nat) (c : ACode)
 | exit (id : Nat)
 | ret
 deriving Inhabited
abbrev Res := Option (Value × H)
abbrev Ds := List ADef
abbrev K := Env → H → Ds → Res
structure Cx where
 c : CF
 p : Value → K
def evAct (cf : CF) : AAct → Env → H → Option (Value × H)
 | .op o,s,h => evOp o s h
 | .call f args,s,h => match aeval s f with
  | .func (.func g) ⟨first⟩ ⟨cap⟩ => cf g (first ++ args.map (aeval s) ++ cap) h
  | _ => none
 | .invoke tbl x args,s,h => match aeval s x with
  | .iface t v => match tbl.find? (fun q => q.1 == t) with
   | some q => cf q.2 (v :: args.map (aeval s)) h
   | none => none
  | _ => none
 | .panic x,s,h => match aeval s x with
  | .iface t v => some (pv (.iface t v),h)
  | _ => none
def setD (s : Env) : Option Nat → Value → Env
 | some d,v => (d,v) :: s
 | none,_ => s
def unset : Value := .tuple ⟨[]⟩
def evOper (cf : Cx) (o : AOper) (s : Env) (h : H) (ds : Ds) (k : Env → H → Res) : Res :=
 match o.guard with
 | none => match evAct cf.c o.act s h with
  | some (v,h') => bif panAct o.act v then cf.p v s h' ds else k (setD s o.dst v) h'
  | none => none
 | some (t,b) => match s.get t with
  | .bool c => bif c == b then
    match evAct cf.c o.act s h with
    | some (v,h') => bif panAct o.act v then cf.p v s h' ds else k (setD s o.dst v) h'
    | none => none
   else k (setD s o.dst unset) h
  | .tuple ⟨[]⟩ => k (setD s o.dst unset) h
  | _ => none
def evOps (cf : Cx) : List AOper → Env → H → Ds → (Env → H → Res) → Res
 | [],s,h,_,k => k s h
 | o :: os,s,h,ds,k => evOper cf o s h ds fun s' h' => evOps cf os s' h' ds k
def evLoop (body : K → K) : Nat → K
 | 0 => fun _ _ _ => none
 | f + 1 => body (evLoop body f)
def evDefer (s : Env) (f : Operand) (args : List Operand) : Option ADef :=
 match aeval s f with
 | .func (.func g) ⟨first⟩ ⟨cap⟩ => some ⟨g,first ++ args.map (aeval s) ++ cap⟩
 | _ => none
structure TR where
 env : Env
 hin : H
 ran : Bool
 val : Value
def wantedA (g : Option (Nat × Bool)) (s : Env) : Option Bool :=
 match g with
 | none => some true
 | some (t,b) => match s.get t with
  | .bool c => some (c == b)
  | .tuple ⟨[]⟩ => some false
  | _ => none
def blanks (h : H) (ds : List DOp) : List TR := ds.map fun _ => ⟨[],h,false,unset⟩
def trace (cf : CF) : List DOp → Env → H → Option (List TR × Env × H × Option Value)
 | [],s,h => some ([],s,h,none)
 | d :: ds,s,h => match wantedA d.o.guard (s.keep d.slots) with
  | none => none
  | some false => match trace cf ds (setD s d.o.dst unset) h with
   | some (l,s2,h2,x) => some (⟨s.keep d.slots,h,false,unset⟩ :: l,s2,h2,x)
   | none => none
  | some true => match evAct cf d.o.act (s.keep d.slots) h with
   | some (v,h1) => bif panAct d.o.act v then (bif d.pan then some (⟨s.keep d.slots,h,true,v⟩ :: blanks h1 ds,s,h1,some v) else none)
    else match trace cf ds (setD s d.o.dst v) h1 with
    | some (l,s2,h2,x) => some (⟨s.keep d.slots,h,true,v⟩ :: l,s2,h2,x)
    | none => none
   | none => none
def hAt (ts : List TR) (h1 : H) (k : Nat) : H := match ts[k]? with
 | some t => t.hin
 | none => h1
def sameCell : Value → Value → Bool
 | .int k a,.int k' b => k == k' && a == b
 | .string a,.string b => a == b
 | .bool a,.bool b => a == b
 | .pointer a,.pointer b => a == b
 | .slice a n c,.slice b n' c' => a == b && n == n' && c == c'
 | .map a,.map b => a == b
 | .nilFunc,.nilFunc => true
 | .nilIface,.nilIface => true
 | _,_ => false
def sameL : List Value → List Value → Bool
 | [],[] => true
 | a :: l,b :: m => sameCell a b && sameL l m
 | _,_ => false
def sameV : Value → Value → Bool
 | .agg ⟨l⟩,.agg ⟨m⟩ => sameL l m
 | .tuple ⟨l⟩,.tuple ⟨m⟩ => sameL l m
 | a,b => sameCell a b
def chk1 (cf : CF) (d : DOp) (t : TR) (h : H) : Bool :=
 !t.ran || (match evAct cf d.o.act t.env h with
  | some (v,_) => sameV v t.val
  | none => false)
def chks (cf : CF) (ops : List DOp) (ts : List TR) (h1 : H) : List (Nat × List Nat) → Bool
 | [] => true
 | (x,ps) :: r => (match ops[x]?,ts[x]? with
  | some d,some t => ps.all fun p => chk1 cf d t (hAt ts h1 p)
  | _,_ => false) && chks cf ops ts h1 r
def rest (s : Env) (ops : List DOp) : Env := s.filter fun x => ops.all fun d => !(d.o.dst == some x.1)
def evRegionD (cf : Cx) (ops : List DOp) (wins : List (Nat × List Nat)) (s : Env) (h : H) (ds : Ds) (k : Env → H → Res) : Res :=
 match trace cf.c ops s h with
 | some (ts,s1,h1,x) => if chks cf.c ops ts h1 wins = true then (match x with
   | none => k s1 h1
   | some v => cf.p v (rest s ops) h1 ds) else none
 | none => none
def evC (F : Nat) (cf : Cx) : ACode → K → (Nat → K) → K → K
 | .skip,kn,_,_ => kn
 | .region ops keep,kn,_,_ => fun s h ds => evOps cf ops s h ds fun s' h' => kn (s'.keep keep) h' ds
 | .regionD ops wins keep,kn,_,_ => fun s h ds => evRegionD cf ops wins s h ds fun s' h' => kn (s'.keep keep) h' ds
 | .defer pre f args keep,kn,_,_ => fun s h ds => evOps cf pre s h ds fun s' h' => match evDefer s' f args with
  | some d => kn (s'.keep keep) h' (d :: ds)
  | none => none
 | .seq a b,kn,ke,kr => evC F cf a (evC F cf b kn ke kr) ke kr
 | .cond c a b,kn,ke,kr => fun s h ds => match aeval s c with
  | .bool true => evC F cf a kn ke kr s h ds
  | .bool false => evC F cf b kn ke kr s h ds
  | _ => none
 | .block id c,kn,ke,kr => evC F cf c kn (fun i => if i = id then kn else ke i) kr
 | .loop live c,_,ke,kr => fun s h ds => evLoop (fun again => evC F cf c (fun s h ds => again (s.keep live) h ds) ke kr) F (s.keep live) h ds
 | .exit id,_,ke,_ => ke id
 | .ret,_,_,kr => kr
def callable (P : Program) (f : FuncId) : Bool :=
 match P.funcs[f]? with
 | some fn => fn.name != "runtime.NumGoroutine" && fn.body.isSome
 | none => false
def CallPost (ρ : Ren) (h : H) (w : World) (r : Value) (h' : H) : Ending → World → Prop := fun e w' =>
 (isPan r = false ∧ ∃ v' ρ',e = .returned v' ∧ VR ρ' r v' ∧ Rel ρ' h' w' ∧ Ext ρ h w ρ' h' w') ∨
 (∃ x x' ρ',r = pv x ∧ e = .panicked [{ v := x',recovered := false }] ∧ VR ρ' x x' ∧ Rel ρ' h' w' ∧ Ext ρ h w ρ' h' w')
def CallOk (P : Program) (cf : CF) : Prop :=
 ∀ f args h r h',cf f args h = some (r,h') → callable P f = true ∧ ∀ ρ w args',Rel ρ h w → VRs ρ args args' → Calls P f ⟨args'⟩ w (CallPost ρ h w r h')
abbrev DCF := FuncId → List Value → H → Option Value → Option (Option Value × H)
inductive MRel (ρ : Ren) : Option Value → FrameMode → Prop
 | none : MRel ρ none .returning
 | some {x x' : Value} (h : VR ρ x x') : MRel ρ (some x) (.panicking [{ v := x',recovered := false }])
def CallDOk (P : Program) (cf : DCF) : Prop :=
 ∀ f args h m m' h',cf f args h m = some (m',h') → callable P f = true ∧ ∀ ρ w args' u,Rel ρ h w → VRs ρ args args' → MRel ρ m u →
  CallsD P f ⟨args'⟩ u w (fun e u' w' => ∃ v' ρ',e = .returned v' ∧ MRel ρ' m' (settle u') ∧ Rel ρ' h' w' ∧ Ext ρ h w ρ' h' w')
variable {P : Program} {ρ : Ren} {h : H} {a : Act} {w : World} {s : Env} {n : Nat} {cf : CF}
def OpWp (P : Program) (o : Oper) (a : Act) (w : World) (post : Value → World → Prop) (pan : List PanicEntry → World → Prop) : Prop :=
 ∀ (next : Act → World → Prop) (Q : Exit → Act → World → Prop),(∀ v w',post v w' → next (a.put o.dst v) w') → (∀ ch w',pan ch w' → Q (.panic ch) a w') → o.wp P a w next Q
theorem OpWp.of_does {o : Oper} {v : Value} {w' : World} {post : Value → World → Prop} {pan : List PanicEntry → World → Prop} (h : Does P o a w v w') (hp : post v w') : OpWp P o a w post pan := by
 intro next Q hn _
 unfold Oper.wp
 rcases h with h | ⟨h,rfl⟩
 ·rw [h];exact hn _ _ hp
 ·rw [h];exact hn _ _ hp
def ActPost (ρ : Ren) (h : H) (w : World) (v : Value) (h' : H) : Value → World → Prop := fun v' w' => ∃ ρ',VR ρ' v v' ∧ Rel ρ' h' w' ∧ Ext ρ h w ρ' h' w'
def PanPost (ρ : Ren) (h : H) (w : World) (v : Value) (h' : H) : List PanicEntry → World → Prop := fun ch w' =>
 ∃ x x' ρ',v = pv x ∧ ch = [{ v := x',recovered := false }] ∧ VR ρ' x x' ∧ Rel ρ' h' w' ∧ Ext ρ h w ρ' h' w'
theorem run_callFunc {f : FuncId} (hc : callable P f = true) (args : Array Value) : (callFunc f args).run P w = .ok (.enter f args) w := by
 unfold callable at hc
 cases hf : P.funcs[f]? with
 | none => rw [hf] at hc;cases hc
 | some fn =>
  rw [hf] at hc
  simp only [Bool.and_eq_true,bne_iff_ne,ne_eq] at hc
  obtain ⟨h1,h2⟩ := hc
  have h3 : ¬ fn.body = none := by cases hb : fn.body <;> simp [hb] at h2 ⊢
  simp [callFunc,hf,h1,h3]
def methodB (P : Program) (t : TypeId) (name : String) : Option FuncId :=
 match P.info? t,P.underlying t with
 | some i,some (.pointer _) => match i.methods.find? (·.name == name) with
  | some m => match m.func with
   | some (f,true) => if m.path = #[] then some f else none
   | _ => none
  | none => none
 | _,_ => none
theorem run_method {t : TypeId} {name : String} {f : FuncId} (hm : methodB P t name = some f) (k : Nat) (v : Value) : (Go.method (k + 1) t v name).run P w = .ok (f,v) w := by
 unfold methodB at hm
 split at hm
 ·rename_i i el hi hu
  split at hm
  ·rename_i m hf
   split at hm
   ·rename_i g hg
    split at hm
    ·rename_i hp
     cases hm
     have h1 : (typeInfo t).run P w = .ok i w := by simp [Go.typeInfo,hi]
     have h2 := run_underlying (w := w) hu
     simp [Go.method,h1,hf,hg,hp,follow,receiverAt,h2,Place.get]
    ·cases hm
   ·cases hm
  ·cases hm
 ·cases hm
def invTable (P : Program) (name : String) : List (TypeId × FuncId) := (List.range P.types.size).filterMap fun t => (methodB P t name).map fun f => (t,f)
theorem invTable_find {name : String} {t : TypeId} {q : TypeId × FuncId} (h : (invTable P name).find? (fun q => q.1 == t) = some q) : methodB P t name = some q.2 := by
 have h1 := List.mem_of_find?_eq_some h
 have h2 := List.find?_some h
 obtain ⟨u,_,hu⟩ := List.mem_filterMap.1 h1
 obtain ⟨f,hf,rfl⟩ := Option.map_eq_some_iff.1 hu
 have h3 : u = t := by simpa using h2
 rw [← h3]
 exact hf
def compAct (P : Program) (o : Op) : Option AAct :=
 match o with
 | .call { callee := .invoke x name,args,.. } => some (.invoke (invTable P name) x args.toList)
 | .call { callee := .value f,args,.. } => some (.call f args.toList)
 | .panic x => some (.panic x)
 | o => (compOp P o).map .op
theorem evAct_sound (o : Oper) {ac : AAct} (hc : compAct P o.op = some ac) (hcf : CallOk P cf) (r : Rel ρ h w) (he : EnvRel ρ n s a.tmps) {v : Value} {h' : H} (e : evAct cf ac s h = some (v,h')) :
  (panAct ac v = false → ∀ pan,OpWp P o a w (ActPost ρ h w v h') pan) ∧ (panAct ac v = true → ∀ post,OpWp P o a w post (PanPost ρ h w v h')) := by
 have hop : (∃ ao,ac = .op ao ∧ compOp P o.op = some ao) ∨ (∃ f args ts,o.op = .call { callee := .value f,args := args,argTypes := ts } ∧ ac = .call f args.toList) ∨ (∃ x,o.op = .panic x ∧ ac = .panic x) ∨ (∃ x name args ts,o.op = .call { callee := .invoke x name,args := args,argTypes := ts } ∧ ac = .invoke (invTable P name) x args.toList) := by
  unfold compAct at hc
  split at hc
  ·rename_i x name args ts hq
   cases hc
   exact .inr (.inr (.inr ⟨x,name,args,ts,hq,rfl⟩))
  ·rename_i f args ts hq
   cases hc
   exact .inr (.inl ⟨f,args,ts,hq,rfl⟩)
  ·rename_i x hq
   cases hc
   exact .inr (.inr (.inl ⟨x,hq,rfl⟩))
  ·obtain ⟨ao,h1,h2⟩ := Option.map_eq_some_iff.1 hc
   exact .inl ⟨ao,h2.symm,h1⟩
 rcases hop with ⟨ao,rfl,hao⟩ | ⟨f,args,ts,hop,rfl⟩ | ⟨x,hop,rfl⟩ | ⟨x,name,args,ts,hop,rfl⟩
 ·obtain ⟨v',ρ',w',h1,h2,h3,h4⟩ := evOp_sound o hao r he e
  exact ⟨fun _ _ => OpWp.of_does h1 ⟨ρ',h2,h3,h4⟩,fun hh => by cases hh⟩
 ·simp only [evAct] at e
  split at e
  ·rename_i g first cap hf
   have hv := aeval_sound he f
   rw [hf] at hv
   obtain ⟨hc1,hc2⟩ := hcf g _ h v h' e
   generalize hev : a.eval f = fv at *
   cases hv
   rename_i fs' cs' hfs hcs
   have hargs := (hfs.append (aeval_map he args.toList)).append hcs
   have hcall := hc2 ρ w _ r hargs
   have hrun : (execOp a.eval o).run P w = .ok (.enter g ⟨fs' ++ args.toList.map a.eval ++ cs'⟩) w := by
    simp only [execOp,hop,resolve,Sem.run_bind,hev,Deferred.ofValue,Sem.run_pure,Result.andThen_ok,invoke]
    rw [run_callFunc hc1]
    congr 2
    apply Array.ext'
    simp
   constructor
   ·intro hp pan next Q hn _
    unfold Oper.wp
    rw [hrun,Oper.upon_enter]
    refine hcall.mono ?_
    rintro e' w' (⟨_,v',ρ',rfl,h1,h2,h3⟩ | ⟨x,x',ρ',rfl,_⟩)
    ·exact hn _ _ ⟨ρ',h1,h2,h3⟩
    ·cases hp
   ·intro hp post next Q _ hn
    unfold Oper.wp
    rw [hrun,Oper.upon_enter]
    refine hcall.mono ?_
    rintro e' w' (⟨hp2,_⟩ | ⟨x,x',ρ',rfl,rfl,h1,h2,h3⟩)
    ·simp only [panAct] at hp
     rw [hp] at hp2;cases hp2
    ·exact hn _ _ ⟨x,x',ρ',rfl,rfl,h1,h2,h3⟩
  ·cases e
 ·simp only [evAct] at e
  split at e
  ·rename_i t u hx
   cases e
   have hv := aeval_sound he x
   rw [hx] at hv
   generalize hev : a.eval x = fv at *
   cases hv
   rename_i u' hu
   refine ⟨fun hh => (by simp [panAct] at hh;cases hh),fun _ post next Q _ hn => ?_⟩
   have hrun : (execOp a.eval o).run P w = .halt (.panic (.iface t u')) w := by
    simp [execOp,hop,Sem.run_bind,hev,Instr.panic,goPanic]
   unfold Oper.wp
   rw [hrun,Oper.upon_panic]
   exact hn _ _ ⟨_,_,ρ,rfl,rfl,.iface t hu,r,.refl _ _ _⟩
  ·cases e
 ·simp only [evAct] at e
  split at e
  ·rename_i t u hx
   split at e
   ·rename_i q hq
    have hm := invTable_find hq
    have hv := aeval_sound he x
    rw [hx] at hv
    obtain ⟨hc1,hc2⟩ := hcf q.2 _ h v h' e
    generalize hev : a.eval x = fv at *
    cases hv
    rename_i u' hu
    have hcall := hc2 ρ w (u' :: args.toList.map a.eval) r (.cons hu (aeval_map he args.toList))
    have hrun : (execOp a.eval o).run P w = .ok (.enter q.2 ⟨u' :: args.toList.map a.eval⟩) w := by
     simp only [execOp,hop,resolve,Sem.run_bind,hev,Sem.run_pure,Result.andThen_ok,invoke]
     have h0 : (#[Value.iface t u'] ++ args.map a.eval)[0]? = some (.iface t u') := by rw [Array.getElem?_append_left (Nat.zero_lt_one)];rfl
     have h1 : (#[Value.iface t u'] ++ args.map a.eval).extract 1 (#[Value.iface t u'] ++ args.map a.eval).size = args.map a.eval := by
      apply Array.ext'
      simp
      exact List.take_of_length_le (by simp)
     have hd : 0 < Made.depth := by decide
     have hk : ∃ k,P.types.size + Made.depth = k + 1 := ⟨P.types.size + Made.depth - 1,by omega⟩
     obtain ⟨k,hk⟩ := hk
     have hpr : (Go.program).run P w = .ok P w := rfl
     simp only [h0,h1,callMethod,Sem.run_bind,hpr,Result.andThen_ok,hk,run_method hm]
     rw [run_callFunc hc1]
     congr 2
     apply Array.ext'
     simp
    constructor
    ·intro hp pan next Q hn _
     unfold Oper.wp
     rw [hrun,Oper.upon_enter]
     refine hcall.mono ?_
     rintro e' w' (⟨_,v',ρ',rfl,h1,h2,h3⟩ | ⟨x,x',ρ',rfl,_⟩)
     ·exact hn _ _ ⟨ρ',h1,h2,h3⟩
     ·cases hp
    ·intro hp post next Q _ hn
     unfold Oper.wp
     rw [hrun,Oper.upon_enter]
     refine hcall.mono ?_
     rintro e' w' (⟨hp2,_⟩ | ⟨x,x',ρ',rfl,rfl,h1,h2,h3⟩)
     ·simp only [panAct] at hp
      rw [hp] at hp2;cases hp2
     ·exact hn _ _ ⟨x,x',ρ',rfl,rfl,h1,h2,h3⟩
   ·cases e
  ·cases e
def compOper (P : Program) (n : Nat) (ops : Array Oper) (o : Oper) : Option AOper :=
 match compAct P o.op,(match o.dst with | some d => decide (d < n) | none => true) with
 | some ac,true =>
  match o.guard with
  | none => some ⟨o.dst,none,ac⟩
  | some (j,b) => match (ops[j]?).bind (·.dst) with
   | some t => some ⟨o.dst,some (t,b),ac⟩
   | none => none
 | _,_ => none
def compOpers (P : Program) (n : Nat) (ops : Array Oper) : List Oper → Option (List AOper)
 | [] => some []
 | o :: r => match compOper P n ops o,compOpers P n ops r with
  | some x,some l => some (x :: l)
  | _,_ => none
theorem compOper_inv {ops : Array Oper} {o : Oper} {x : AOper} (h : compOper P n ops o = some x) :
  compAct P o.op = some x.act ∧ x.dst = o.dst ∧ (∀ d,o.dst = some d → d < n) ∧ ((o.guard = none ∧ x.guard = none) ∨ ∃ j b t,o.guard = some (j,b) ∧ x.guard = some (t,b) ∧ (ops[j]?).bind (·.dst) = some t) := by
 unfold compOper at h
 split at h
 ·rename_i ac hac hd
  have hd' : ∀ d,o.dst = some d → d < n := by
   intro d hd0
   rw [hd0] at hd
   simpa using hd
  split at h
  ·rename_i hg
   cases h
   exact ⟨hac,rfl,hd',.inl ⟨hg,rfl⟩⟩
  ·rename_i j b hg
   split at h
   ·rename_i t ht
    cases h
    exact ⟨hac,rfl,hd',.inr ⟨j,b,t,hg,rfl,ht⟩⟩
   ·cases h
 ·cases h
theorem EnvRel.setD (he : EnvRel ρ n s a.tmps) {d : Option Nat} (hd : ∀ t,d = some t → t < n) {v v' : Value} (hv : VR ρ v v') : EnvRel ρ n (setD s d v) (a.put d v').tmps := by
 cases d with
 | none => exact he
 | some t => exact he.put hv (hd t rfl)
structure St (ρ0 : Ren) (h0 : H) (w0 : World) (n : Nat) (s : Env) (h : H) (a : Act) (w : World) : Prop where
 ex : ∃ ρ,Rel ρ h w ∧ EnvRel ρ n s a.tmps ∧ Ext ρ0 h0 w0 ρ h w
def PanQ (ρ : Ren) (h : H) (w : World) (cx : Cx) (s : Env) (ds : Ds) (res : Value × H) (a : Act) (Q : Exit → Act → World → Prop) : Prop :=
 ∀ x x' ρ' h' w',cx.p (pv x) s h' ds = some res → VR ρ' x x' → Rel ρ' h' w' → Ext ρ h w ρ' h' w' → Q (.panic [{ v := x',recovered := false }]) a w'
theorem evOper_sound {cx : Cx} {ds : Ds} {ops : Array Oper} {o : Oper} {x : AOper} (hx : compOper P n ops o = some x) (hcf : CallOk P cx.c) (r : Rel ρ h w) (he : EnvRel ρ n s a.tmps) {k : Env → H → Res} {res : Value × H} (e : evOper cx x s h ds k = some res)
  {next : Act → World → Prop} {Q : Exit → Act → World → Prop} (hp : PanQ ρ h w cx s ds res a Q)
  (hn : ∀ v v' ρ' h' w',k (Ev.setD s x.dst v) h' = some res → Rel ρ' h' w' → EnvRel ρ' n (Ev.setD s x.dst v) (a.put o.dst v').tmps → Ext ρ h w ρ' h' w' → next (a.put o.dst v') w') :
  if Region.wanted o (yielded ops a.tmps) then o.wp P a w next Q ∨ (o.asks P a w ∧ LetsOut Q) else next (a.put o.dst undef) w := by
 obtain ⟨g1,g2,g3,g4⟩ := compOper_inv hx
 have hrun : ∀ {v h'},evAct cx.c x.act s h = some (v,h') → (bif panAct x.act v then cx.p v s h' ds else k (Ev.setD s x.dst v) h') = some res → o.wp P a w next Q := by
  intro v h' e1 e2
  obtain ⟨q1,q2⟩ := evAct_sound o g1 hcf r he e1
  cases hpv : panAct x.act v with
  | false =>
   rw [hpv] at e2
   refine q1 hpv (fun _ _ => False) next Q ?_ (fun _ _ hf => hf.elim)
   rintro v' w' ⟨ρ',h1,h2,h3⟩
   refine hn v v' ρ' h' w' e2 h2 ?_ h3
   rw [g2]
   exact (he.mono h3.le).setD g3 h1
  | true =>
   rw [hpv] at e2
   refine q2 hpv (fun _ _ => False) next Q (fun _ _ hf => hf.elim) ?_
   rintro ch w' ⟨y,y',ρ',rfl,rfl,h1,h2,h3⟩
   exact hp y y' ρ' h' w' e2 h1 h2 h3
 unfold evOper at e
 rcases g4 with ⟨h1,h2⟩ | ⟨j,b,t,h1,h2,h3⟩
 ·rw [h2] at e
  simp only at e
  have hw : Region.wanted o (yielded ops a.tmps) = true := by simp [Region.wanted,h1]
  rw [if_pos hw]
  split at e
  ·rename_i v h' hv
   exact .inl (hrun hv e)
  ·cases e
 ·rw [h2] at e
  simp only at e
  split at e
  ·rename_i c hc
   have hv := he.2 t
   rw [hc] at hv
   have hv' := hv.bool_inv
   have hget : a.tmps[t]? = some (.bool c) := by
    rw [Array.getD_eq_getD_getElem?] at hv'
    cases ht : a.tmps[t]? with
    | none => rw [ht] at hv';simp [undef] at hv'
    | some q => rw [ht] at hv';simp at hv';rw [hv']
   have hy : yielded ops a.tmps j = some c := by simp [yielded,h3,hget]
   by_cases hcb : c = b
   ·subst hcb
    have hw : Region.wanted o (yielded ops a.tmps) = true := by simp [Region.wanted,h1,hy]
    rw [if_pos hw]
    simp at e
    split at e
    ·rename_i v h' hv
     exact .inl (hrun hv e)
    ·cases e
   ·have hw : Region.wanted o (yielded ops a.tmps) = false := by simp [Region.wanted,h1,hy,hcb]
    rw [if_neg (by simp [hw])]
    have hbeq : (c == b) = false := by simpa using hcb
    rw [hbeq] at e
    simp at e
    refine hn unset undef ρ h w e r ?_ (.refl _ _ _)
    rw [g2]
    exact he.setD g3 (.tuple .nil)
  ·rename_i hc
   have hv := he.2 t
   rw [hc] at hv
   obtain ⟨l',hv',hl'⟩ := hv.tuple_inv
   cases hl'
   have hy : yielded ops a.tmps j = none := by
    unfold yielded
    rw [h3]
    rw [Array.getD_eq_getD_getElem?] at hv'
    cases ht : a.tmps[t]? with
    | none => simp [ht]
    | some q => rw [ht] at hv';simp at hv';simp [ht,hv']
   have hw : Region.wanted o (yielded ops a.tmps) = false := by simp [Region.wanted,h1,hy]
   rw [if_neg (by simp [hw])]
   refine hn unset undef ρ h w e r ?_ (.refl _ _ _)
   rw [g2]
   exact he.setD g3 (.tuple .nil)
  ·cases e
theorem evOps_sound {cx : Cx} {ds : Ds} {ops : Array Oper} (hcf : CallOk P cx.c) {res : Value × H} {Q : Exit → Act → World → Prop} {k : Env → H → Res} {rest : List Oper} : ∀ (l : List Oper) (al : List AOper),compOpers P n ops l = some al →
  ∀ {ρ : Ren} {h : H} {a : Act} {w : World} {s : Env},Rel ρ h w → EnvRel ρ n s a.tmps → evOps cx al s h ds k = some res →
  (∀ ρ' s' h' a' w' x x',cx.p (pv x) s' h' ds = some res → VR ρ' x x' → Rel ρ' h' w' → EnvRel ρ' n s' a'.tmps → Ext ρ h w ρ' h' w' → a'.defers = a.defers → Q (.panic [{ v := x',recovered := false }]) a' w') →
  (∀ ρ' s' h' a' w',k s' h' = some res → Rel ρ' h' w' → EnvRel ρ' n s' a'.tmps → Ext ρ h w ρ' h' w' → a'.defers = a.defers → wpList P ops Q rest a' w') →
  wpList P ops Q (l ++ rest) a w
 | [],al,hal,ρ,h,a,w,s,r,he,e,hp,hq => by
  simp [compOpers] at hal;subst hal
  exact hq ρ s h a w e r he (.refl _ _ _) rfl
 | o :: l,al,hal,ρ,h,a,w,s,r,he,e,hp,hq => by
  unfold compOpers at hal
  split at hal
  ·rename_i x al' hx hal'
   cases hal
   simp only [evOps] at e
   rw [List.cons_append,wpList]
   refine evOper_sound hx hcf r he e (fun y y' ρ' h' w' e' hv r' x' => hp ρ' s h' a w' y y' e' hv r' (he.mono x'.le) x' rfl) ?_
   intro v v' ρ1 h1 w1 e1 r1 he1 x1
   refine evOps_sound hcf l al' hal' r1 he1 e1 (fun ρ' s' h' a' w' y y' e' hv r' he' x' hdd => hp ρ' s' h' a' w' y y' e' hv r' he' (Ext.trans r x1 x') (hdd.trans (by cases o.dst <;> rfl))) ?_
   intro ρ2 s2 h2 a2 w2 e2 r2 he2 x2 hdd
   refine hq ρ2 s2 h2 a2 w2 e2 r2 he2 (Ext.trans r x1 x2) (hdd.trans ?_)
   cases o.dst <;> rfl
  ·cases hal
theorem wp_region_list {id : Nat} {ops : Array Oper} {Q : Exit → Act → World → Prop} (hw : wpList P ops Q ops.toList a w) : (Code.region id ops false).wp P Q a w := by
 refine wp_region ?_
 have := wpOps_eq_wpList (P := P) (ops := ops) (Q := Q) ops.toList 0 (fun j => by simp)
 rw [List.range_eq_range']
 simp only [Array.length_toList] at this
 rw [this]
 exact hw
end Go.Ev
namespace Go.Ev
variable {P : Program} {ρ : Ren} {h : H} {a : Act} {w : World} {s : Env} {n : Nat} {cf : CF}
theorem Rel.pushNone (r : Rel ρ h w) (x : Blk) : Rel ρ (h.push x) w := by
 have hget : ∀ {b i},ρ b = some i → (h.push x)[b]? = h[b]? := by
  intro b i hb
  rw [Array.getElem?_push,if_neg (Nat.ne_of_lt (r.dom b i hb))]
 refine ⟨⟨fun b i hb => by have := r.dom b i hb;simp;omega,r.bnd,?_,?_,?_,r.glb⟩,⟨fun b i y hb hi hy => r.gt.dead b i y hb hi (by rw [hget hb] at hy;exact hy),r.gt.tab⟩⟩
 ·intro b i y hb hy
  rw [hget hb] at hy
  exact r.blk b i y hb hy
 ·intro b c i j y z hb hc hij hne hy hz hyd hzd
  rw [hget hb] at hy;rw [hget hc] at hz
  exact r.sep b c i j y z hb hc hij hne hy hz hyd hzd
 ·intro b i y a hb hy ha
  rw [hget hb] at hy
  exact r.anc b i y a hb hy ha
theorem Ext.pushNone {ρ0 : Ren} {h0 : H} {w0 : World} (x : Ext ρ0 h0 w0 ρ h w) (y : Blk) : Ext ρ0 h0 w0 ρ (h.push y) w := by
 have hget : ∀ {b},b < h0.size → (h.push y)[b]? = h[b]? := by
  intro b hb
  rw [Array.getElem?_push,if_neg (by have := x.hsz;omega)]
 refine ⟨x.le,by have := x.hsz;simp;omega,x.wsz,?_,x.cf,x.nw,?_,x.io⟩
 ·intro b hb hn;rw [hget hb];exact x.af b hb hn
 ·intro b z z' hb h1 h2 h3
  rw [hget hb] at h2
  exact x.dull b z z' hb h1 h2 h3
theorem adopt_rel (r : Rel ρ h w) {b : Nat} (hb : ρ b = none) {x : Blk} (hx : h[b]? = some x) (o : Obj) (i : Info) (hi : i.blk = w.heap.size) (hbr : BR (ρ.put b i) i (w.alloc o) x) (ha : x.ancs = []) : Rel (ρ.put b i) h (w.alloc o) := by
 have hle : ρ.le (ρ.put b i) := fun c j hc => by
  have : c ≠ b := fun e => by subst e;rw [hb] at hc;cases hc
  simp [Ren.put,this,hc]
 have hold : ∀ j,j < w.heap.size → (w.alloc o).heap[j]? = w.heap[j]? := fun j hj => by
  rw [heap_alloc',Array.getElem?_push,if_neg (Nat.ne_of_lt hj)]
 have hsz : (w.alloc o).heap.size = w.heap.size + 1 := by rw [heap_alloc'];simp
 have back : ∀ {c k},ρ.put b i c = some k → (c = b ∧ k = i) ∨ (c ≠ b ∧ ρ c = some k) := by
  intro c k hc
  unfold Ren.put at hc
  split at hc
  ·cases hc;exact .inl ⟨‹_›,rfl⟩
  ·exact .inr ⟨‹_›,hc⟩
 have hgt : GT (ρ.put b i) h (w.alloc o) := by
  refine ⟨fun c k y hc hk hy => ?_,?_⟩
  ·rcases back hc with ⟨_,rfl⟩ | ⟨_,h1⟩
   ·have := r.gsize;omega
   ·exact r.gt.dead c k y h1 hk hy
  ·obtain ⟨t,fr,ht⟩ := r.gt.tab
   exact ⟨t,fr,(hold gTab (Nat.lt_of_lt_of_le (by decide) r.gsize)).trans ht⟩
 refine ⟨⟨?_,?_,?_,?_,?_,fun g hg => by
  have := r.glb g hg
  have hne : g ≠ b := fun e => by subst e;rw [hb] at this;cases this
  simp [Ren.put,hne,this]⟩,hgt⟩
 ·intro c k hc
  rcases back hc with ⟨rfl,_⟩ | ⟨_,h1⟩
  ·exact (Array.getElem?_eq_some_iff.1 hx).1
  ·exact r.dom _ _ h1
 ·intro c k hc
  rcases back hc with ⟨_,rfl⟩ | ⟨_,h1⟩
  ·omega
  ·have := r.bnd _ _ h1;omega
 ·intro c k y hc hy
  rcases back hc with ⟨rfl,rfl⟩ | ⟨_,h1⟩
  ·rw [hx] at hy;cases hy;exact hbr
  ·exact (r.blk c k y h1 hy).keep hle (hold _ (r.bnd _ _ h1))
 ·intro c d k l y z hc hd hkl hne hy hz hyd hzd
  rcases back hc with ⟨rfl,rfl⟩ | ⟨_,hc2⟩
  ·rcases back hd with ⟨rfl,rfl⟩ | ⟨_,hd2⟩
   ·exact absurd rfl hne
   ·have := r.bnd _ _ hd2;omega
  ·rcases back hd with ⟨rfl,rfl⟩ | ⟨_,hd2⟩
   ·have := r.bnd _ _ hc2;omega
   ·exact r.sep c d k l y z hc2 hd2 hkl hne hy hz hyd hzd
 ·intro c k y q hc hy hq
  have : ρ q ≠ none := by
   rcases back hc with ⟨rfl,rfl⟩ | ⟨_,hc2⟩
   ·rw [hx] at hy;cases hy;rw [ha] at hq;cases hq
   ·exact r.anc c k y q hc2 hy hq
  cases e : ρ q with
  | none => exact absurd e this
  | some z => rw [hle q z e];simp
theorem adopt_ext {ρ0 : Ren} {h0 : H} {w0 : World} (x : Ext ρ0 h0 w0 ρ h w) {b : Nat} (hb : ρ b = none) (hb0 : h0.size ≤ b) (o : Obj) (i : Info) (hi : i.blk = w.heap.size) : Ext ρ0 h0 w0 (ρ.put b i) h (w.alloc o) := by
 have hle : ρ.le (ρ.put b i) := fun c j hc => by
  have : c ≠ b := fun e => by subst e;rw [hb] at hc;cases hc
  simp [Ren.put,this,hc]
 have hsz : (w.alloc o).heap.size = w.heap.size + 1 := by rw [heap_alloc'];simp
 refine ⟨x.le.trans hle,x.hsz,by have := x.wsz;omega,x.af,?_,?_,x.dull,x.io⟩
 ·intro b' hb' hl
  rw [heap_alloc',Array.getElem?_push,if_neg (by have := x.wsz;omega)]
  exact x.cf b' hb' hl
 ·intro c k hc
  unfold Ren.put at hc
  split at hc
  ·rename_i e;subst e;cases hc
   exact .inr ⟨hb0,.inl (by have := x.wsz;omega)⟩
  ·exact x.nw c k hc
theorem row_br {ρ2 : Ren} {cs : List Value} (cs' : Array Value) (e : TypeId) (es : Nat) (lv : Bool) (anc : List Nat) (room : Nat)
  (hv : VRs ρ2 cs (cs'.toList.take cs.length)) (hl : cs.length + room ≤ cs'.size) : BR ρ2 ⟨w.heap.size,0,es,room⟩ (w.alloc (.cells cs' e)) (.cells cs es lv anc) := by
 have hnew := heap_alloc_new w (.cells cs' e)
 refine ⟨rfl,fun j hj => ?_,fun j v hj => ?_⟩
 ·have hjl : j < cs'.size := by simp at hj;omega
  constructor
  ·simp only [World.cell?,hnew];simp [hjl]
  ·simp only [World.frozen?,hnew];simp
 ·obtain ⟨v',h1,h2⟩ := hv.get hj
  have hjl : j < cs.length := (List.getElem?_eq_some_iff.1 hj).1
  rw [List.getElem?_take,if_pos hjl] at h1
  refine ⟨v',?_,h2⟩
  simp only [World.cell?,hnew]
  simpa using h1
inductive Cls where
 | n | r | a | w
 deriving DecidableEq
def clsOp : AOp → Cls
 | .load1 _ | .loadN _ _ | .lookup .. | .lenMap _ | .conv .toString _ => .r
 | .alloc _ | .box _ | .mkSlice .. => .a
 | .store .. | .mapUpd .. | .append .. | .copy .. | .delete .. | .clear .. | .mkMap | .makeSlice .. | .conv .toBytes _ | .rangeStr _ | .nextStr _ => .w
 | _ => .n
def clsAct : AAct → Cls
 | .op o => clsOp o
 | .call .. => .w
 | .invoke .. => .w
 | .panic _ => .w
theorem clsAct_pan {ac : AAct} {v : Value} (h : panAct ac v = true) : clsAct ac = .w := by
 cases ac with
 | op o => cases h
 | _ => rfl
theorem evOp_n {o : AOp} (hc : clsOp o = .n) {v : Value} {h' : H} (e : evOp o s h = some (v,h')) : h' = h ∧ ∀ h2,evOp o s h2 = some (v,h2) := by
 cases o <;> simp only [clsOp,reduceCtorEq] at hc <;> simp only [evOp] at e ⊢
 all_goals first
  | (simp at e;obtain ⟨rfl,rfl⟩ := e;exact ⟨rfl,fun _ => rfl⟩)
  | (obtain ⟨q,hq,hf⟩ := Option.map_eq_some_iff.1 e;cases hf;exact ⟨rfl,fun _ => by rw [hq];rfl⟩)
  | skip
 case minmax m x y =>
  split at e
  ·rename_i k i k' j hx hy
   split at e
   ·rename_i hk
    simp at e;obtain ⟨e,rfl⟩ := e
    exact ⟨rfl,fun h2 => by simp [hx,hy,hk,← e]⟩
   ·cases e
  ·cases e
 case slice sz x lo hi =>
  split at e
  ·rename_i hx
   split at e
   ·rename_i z hz
    split at e
    ·rename_i p hp
     split at e
     ·rename_i hc;simp at e;obtain ⟨rfl,rfl⟩ := e;exact ⟨rfl,fun h2 => by simp only [hx,hz,hp,if_pos hc]⟩
     ·cases e
    ·cases e
   ·cases e
  ·rename_i b oo m c hx
   split at e
   ·rename_i z hz
    split at e
    ·rename_i p hp
     split at e
     ·rename_i hc;simp at e;obtain ⟨rfl,rfl⟩ := e;exact ⟨rfl,fun h2 => by simp only [hx,hz,hp,if_pos hc]⟩
     ·cases e
    ·cases e
   ·cases e
  ·cases e
 all_goals
  repeat' split at e
  all_goals first
   | (cases e;done)
   | (simp_all;done)
   | (obtain ⟨q,hq,hf⟩ := Option.map_eq_some_iff.1 e;cases hf;simp_all;done)
theorem rd_push {b o m : Nat} {l : List Value} (e : rd h b o m = some l) (x : Blk) : rd (h.push x) b o m = some l := by
 have hb : b < h.size := by
  unfold rd at e
  split at e
  ·rename_i hx;exact (Array.getElem?_eq_some_iff.1 hx).1
  ·cases e
 unfold rd at e ⊢
 rw [Array.getElem?_push,if_neg (Nat.ne_of_lt hb)]
 exact e
theorem entries_push {x : Value} {m : List (Value × Value)} (e : entriesOf h x = some m) (y : Blk) : entriesOf (h.push y) x = some m := by
 unfold entriesOf at e ⊢
 split at e
 ·exact e
 ·rename_i b
  split at e
  ·rename_i es lv hx
   have hb := (Array.getElem?_eq_some_iff.1 hx).1
   rw [Array.getElem?_push,if_neg (Nat.ne_of_lt hb),hx]
   exact e
  ·cases e
 ·cases e
theorem evOp_r {o : AOp} (hc : clsOp o = .r) {v : Value} {h' : H} (e : evOp o s h = some (v,h')) : h' = h ∧ ∀ x,evOp o s (h.push x) = some (v,h.push x) := by
 cases o <;> simp only [clsOp,reduceCtorEq] at hc <;> simp only [evOp] at e ⊢
 case load1 a =>
  split at e
  ·rename_i b o hx
   obtain ⟨q,hq,hf⟩ := Option.map_eq_some_iff.1 e
   cases hf
   refine ⟨rfl,fun x => ?_⟩
   cases hl : rd h b o 1 with
   | none => rw [hl] at hq;cases hq
   | some l => rw [hl] at hq;simp only [rd_push hl x,hq];rfl
  ·cases e
 case loadN m a =>
  split at e
  ·rename_i b o hx
   obtain ⟨q,hq,hf⟩ := Option.map_eq_some_iff.1 e
   cases hf
   exact ⟨rfl,fun x => by simp only [rd_push hq x];rfl⟩
  ·cases e
 case lookup ck z a k ok =>
  split at e
  ·rename_i es hes
   have hp := fun y => entries_push hes y
   split at e
   ·rename_i hk
    split at e
    ·cases e;exact ⟨rfl,fun x => by simp_all⟩
    ·cases e;exact ⟨rfl,fun x => by simp_all⟩
    ·cases e
   ·cases e
  ·cases e
 case lenMap a =>
  obtain ⟨q,hq,hf⟩ := Option.map_eq_some_iff.1 e
  cases hf
  exact ⟨rfl,fun x => by simp only [entries_push hq x];rfl⟩
 case conv c a =>
  cases c <;> simp only [reduceCtorEq] at hc
  split at e <;> try (cases e;done)
  all_goals (try (rename_i hq _;cases hq;done))
  ·cases e;exact ⟨rfl,fun x => by simp_all⟩
  ·rename_i b o m c' _ hx
   split at e
   ·cases e;exact ⟨rfl,fun x => by simp_all⟩
   ·rename_i hm
    obtain ⟨q,hq,hf⟩ := Option.map_eq_some_iff.1 e
    cases hf
    refine ⟨rfl,fun x => ?_⟩
    cases hl : rd h b o m with
    | none => rw [hl] at hq;cases hq
    | some l => rw [hl] at hq;simp only [rd_push hl x,hq];simp [hm]
def blkOf (s : Env) : AOp → Option Blk
 | .alloc z => some (.cells z 0 true [])
 | .box x => (vcells (aeval s x)).map fun l => .cells l 0 true []
 | .mkSlice es _ z ps => match partsOf s ps with
  | some l => (fillL z l).map fun c => .cells c es true []
  | none => none
 | _ => none
def valOf (o : AOp) (b : Nat) : Value :=
 match o with
 | .mkSlice _ len _ _ => .slice (some ⟨b,0,none⟩) len len
 | _ => .pointer (some ⟨b,0,none⟩)
theorem evOp_a {o : AOp} (hc : clsOp o = .a) {v : Value} {h' : H} (e : evOp o s h = some (v,h')) : ∃ x,blkOf s o = some x ∧ v = valOf o h.size ∧ h' = h.push x ∧ x.ancs = [] := by
 cases o <;> simp only [clsOp,reduceCtorEq] at hc <;> simp only [evOp] at e
 ·cases e;exact ⟨_,rfl,rfl,rfl,rfl⟩
 ·obtain ⟨q,hq,hf⟩ := Option.map_eq_some_iff.1 e
  cases hf
  exact ⟨_,by simp [blkOf,hq],rfl,rfl,rfl⟩
 ·obtain ⟨q,c,g1,g2,g3⟩ := partsOf_none e
  cases g3
  exact ⟨_,by simp [blkOf,g1,g2],rfl,rfl,rfl⟩
 ·rename_i c _
  cases c <;> simp [clsOp] at hc
theorem goodA (o : Oper) {ao : AOp} (hcomp : compOp P o.op = some ao) (hc : clsOp ao = .a) (r : Rel ρ h w) (he : EnvRel ρ n s a.tmps) {x : Blk} (hx : blkOf s ao = some x) :
  ∃ v' obj i,Does P o a w v' (w.alloc obj) ∧ i.blk = w.heap.size ∧ (∀ ρ2 : Ren,ρ.le ρ2 → BR ρ2 i (w.alloc obj) x) ∧ (∀ (ρ2 : Ren) (b : Nat),ρ2 b = some i → VR ρ2 (valOf ao b) v') := by
 cases hop : o.op with
 | alloc t =>
  rw [hop] at hcomp;simp [compOp] at hcomp
  obtain ⟨z,hz,rfl⟩ := hcomp
  simp [blkOf] at hx;subst hx
  obtain ⟨zv,g1,g2,g3,_⟩ := zeroC_run hz
  refine ⟨.pointer (some ⟨w.heap.size,0,none⟩),.cells zv.cells t,⟨w.heap.size,0,0,0⟩,.inl ?_,rfl,fun ρ2 _ => ?_,fun ρ2 b hb => .ptr hb⟩
  ·simp [execOp,hop,Instr.alloc,g1,newVar,Go.newRow,newObj,Sem.run]
  ·exact row_br zv.cells t 0 true [] 0 (by rw [g2];simpa using VRs.konst g3) (by rw [toList_inj g2];simp)
 | box t x =>
  rw [hop] at hcomp;simp [compOp] at hcomp;subst hcomp
  simp only [blkOf] at hx
  obtain ⟨l,hl,hf⟩ := Option.map_eq_some_iff.1 hx
  cases hf
  have h1 := (aeval_sound he x).cells hl
  refine ⟨.pointer (some ⟨w.heap.size,0,none⟩),.cells (a.eval x).cells t,⟨w.heap.size,0,0,0⟩,.inl ?_,rfl,fun ρ2 hle => ?_,fun ρ2 b hb => .ptr hb⟩
  ·simp [execOp,hop,Instr.box,newVar,Go.newRow,newObj,Sem.run]
  ·exact row_br (a.eval x).cells t 0 true [] 0 (by rw [List.take_of_length_le (by rw [h1.length];exact Nat.le_refl _)];exact h1.mono hle) (by rw [h1.length];simp)
 | buildSlice t len ps =>
  rw [hop] at hcomp;simp only [compOp] at hcomp
  split at hcomp
  ·rename_i el hel
   split at hcomp
   ·rename_i z1 hz
    split at hcomp
    ·rename_i hsm
     simp at hcomp
     obtain ⟨l,hl,rfl⟩ := hcomp
     simp only [blkOf] at hx
     split at hx
     ·rename_i vs hv
      obtain ⟨c,hfill,hf⟩ := Option.map_eq_some_iff.1 hx
      cases hf
      obtain ⟨c',f2,hrun⟩ := mkSlice_run o t el len ps hop (elOf_some hel) hz hsm hl rfl (w := w) he hv hfill
      refine ⟨.slice (some ⟨w.heap.size,0,none⟩) len len,.cells c' el,⟨w.heap.size,0,z1.length,0⟩,.inl hrun,rfl,fun ρ2 hle => ?_,fun ρ2 b hb => .slice hb (Nat.le_refl _) (Nat.le_refl _) (by simp) (.inl rfl)⟩
      exact row_br c' el z1.length true [] 0 (by rw [List.take_of_length_le (by rw [f2.length];exact Nat.le_refl _)];exact f2.mono hle) (by rw [f2.length];simp)
     ·cases hx
    ·cases hcomp
   ·cases hcomp
  ·cases hcomp
 | binOp op t x y ty =>
  rw [hop] at hcomp;simp only [compOp,compBin] at hcomp
  repeat' split at hcomp
  all_goals first
   | (cases hcomp;simp [clsOp] at hc;done)
   | cases hcomp
 | convert src dst x =>
  rw [hop] at hcomp;simp only [compOp,compConv] at hcomp
  repeat' split at hcomp
  all_goals first
   | (cases hcomp;simp [clsOp] at hc;done)
   | cases hcomp
 | call c =>
  rw [hop] at hcomp
  obtain ⟨callee,args,ts⟩ := c
  cases callee <;> simp only [compOp,compBuiltin,reduceCtorEq] at hcomp
  repeat' split at hcomp
  all_goals first
   | (cases hcomp;simp [clsOp] at hc;done)
   | (obtain ⟨q,hq,hf⟩ := Option.map_eq_some_iff.1 hcomp;cases hf;simp [clsOp] at hc;done)
   | cases hcomp
 | makeMap t q =>
  rw [hop] at hcomp
  cases q <;> simp [compOp] at hcomp
  subst hcomp;simp [clsOp] at hc
 | next x b =>
  rw [hop] at hcomp
  cases b
  ·simp [compOp] at hcomp
  ·simp only [compOp] at hcomp
   cases hcomp;simp [clsOp] at hc
 | slice t x lo hi mx =>
  rw [hop] at hcomp
  cases mx <;> simp only [compOp,reduceCtorEq] at hcomp
  repeat' split at hcomp
  all_goals first
   | (cases hcomp;simp [clsOp] at hc;done)
   | (obtain ⟨q,hq,hf⟩ := Option.map_eq_some_iff.1 hcomp;cases hf;simp [clsOp] at hc;done)
   | cases hcomp
 | _ =>
  rw [hop] at hcomp
  simp only [compOp,reduceCtorEq] at hcomp
  try (repeat' split at hcomp)
  all_goals first
   | (cases hcomp;simp [clsOp] at hc;done)
   | (obtain ⟨q,hq,hf⟩ := Option.map_eq_some_iff.1 hcomp;cases hf;simp [clsOp] at hc;done)
   | cases hcomp
theorem sameCell_eq {a b : Value} (h : sameCell a b = true) : a = b := by
 unfold sameCell at h
 split at h
 ·simp at h;obtain ⟨rfl,rfl⟩ := h;rfl
 ·rw [ba_eq.1 h]
 ·simp at h;rw [h]
 ·simp at h;rw [h]
 ·simp at h;obtain ⟨⟨rfl,rfl⟩,rfl⟩ := h;rfl
 ·simp at h;rw [h]
 ·rfl
 ·rfl
 ·cases h
theorem sameL_eq : ∀ {l m : List Value},sameL l m = true → l = m
 | [],[],_ => rfl
 | [],_ :: _,h => by simp [sameL] at h
 | _ :: _,[],h => by simp [sameL] at h
 | a :: l,b :: m,h => by
  simp only [sameL,Bool.and_eq_true] at h
  rw [sameCell_eq h.1,sameL_eq h.2]
theorem sameV_eq {a b : Value} (h : sameV a b = true) : a = b := by
 unfold sameV at h
 split at h
 ·rw [sameL_eq h]
 ·rw [sameL_eq h]
 ·exact sameCell_eq h
structure Tr (cf : CF) (dl : List DOp) (s0 : Env) (h0 : H) (ts : List TR) (s1 : Env) (h1 : H) (pn : Nat) (px : Option Value) (envAt : Nat → Env) : Prop where
 len : ts.length = dl.length
 e0 : envAt 0 = s0
 ple : pn ≤ dl.length
 eN : px = none → pn = dl.length ∧ envAt dl.length = s1
 step : ∀ k d t,k ≤ pn → dl[k]? = some d → ts[k]? = some t → t.env = (envAt k).keep d.slots ∧ wantedA d.o.guard t.env = some t.ran ∧ envAt (k + 1) = setD (envAt k) d.o.dst t.val ∧
  (t.ran = false → t.val = unset ∧ hAt ts h1 (k + 1) = t.hin) ∧ (t.ran = true → evAct cf d.o.act t.env t.hin = some (t.val,hAt ts h1 (k + 1)))
 h0 : hAt ts h1 0 = h0
 np : ∀ k d t,k < pn → dl[k]? = some d → ts[k]? = some t → t.ran = true → panAct d.o.act t.val = false
 eP : ∀ v,px = some v → ∃ d t,dl[pn]? = some d ∧ ts[pn]? = some t ∧ t.ran = true ∧ t.val = v ∧ panAct d.o.act v = true ∧ d.pan = true ∧ hAt ts h1 (pn + 1) = h1
theorem hAt_blanks (h1 : H) (ds : List DOp) (k : Nat) : hAt (blanks h1 ds) h1 k = h1 := by
 unfold hAt blanks
 rw [List.getElem?_map]
 cases ds[k]? <;> rfl
theorem trace_tr : ∀ {dl : List DOp} {s0 : Env} {h0 : H} {ts : List TR} {s1 : Env} {h1 : H} {px : Option Value},trace cf dl s0 h0 = some (ts,s1,h1,px) → ∃ pn envAt,Tr cf dl s0 h0 ts s1 h1 pn px envAt
 | [],s0,h0,ts,s1,h1,px,e => by
  simp [trace] at e;obtain ⟨rfl,rfl,rfl,rfl⟩ := e
  exact ⟨0,fun _ => s0,⟨rfl,rfl,Nat.le_refl _,fun _ => ⟨rfl,rfl⟩,fun k d t _ hk => by simp at hk,rfl,fun k d t hk => absurd hk (Nat.not_lt_zero _),fun v hv => by cases hv⟩⟩
 | d :: ds,s0,h0,ts,s1,h1,px,e => by
  simp only [trace] at e
  have key : ∀ (t0 : TR) (l : List TR) (hb : H),t0.env = s0.keep d.slots → t0.hin = h0 → wantedA d.o.guard t0.env = some t0.ran → (t0.ran = false → t0.val = unset ∧ hb = h0) → (t0.ran = true → evAct cf d.o.act t0.env h0 = some (t0.val,hb)) →
    (t0.ran = true → panAct d.o.act t0.val = false) →
    trace cf ds (setD s0 d.o.dst t0.val) hb = some (l,s1,h1,px) → ∃ pn envAt,Tr cf (d :: ds) s0 h0 (t0 :: l) s1 h1 pn px envAt := by
   intro t0 l hb g1 g2 g3 g4 g5 gp g6
   obtain ⟨pn,envAt,q⟩ := trace_tr g6
   have hsh : ∀ k,hAt (t0 :: l) h1 (k + 1) = hAt l h1 k := fun k => by simp [hAt]
   refine ⟨pn + 1,fun k => match k with | 0 => s0 | k + 1 => envAt k,⟨by simp [q.len],rfl,by simpa using q.ple,fun hx => ⟨by simpa using (q.eN hx).1,(q.eN hx).2⟩,?_,by simp [hAt,g2],?_,?_⟩⟩
   ·intro k d' t hkp hk ht
    cases k with
    | zero =>
     simp at hk ht;subst hk;subst ht
     refine ⟨g1,g3,q.e0,?_,?_⟩
     ·intro hr;rw [hsh,q.h0,g2];exact g4 hr
     ·intro hr;rw [hsh,q.h0,g2];exact g5 hr
    | succ k =>
     simp only [List.getElem?_cons_succ] at hk ht
     obtain ⟨p1,p2,p3,p4,p5⟩ := q.step k d' t (by omega) hk ht
     exact ⟨p1,p2,p3,by rw [hsh];exact p4,by rw [hsh];exact p5⟩
   ·intro k d' t hkp hk ht hr
    cases k with
    | zero => simp at hk ht;subst hk;subst ht;exact gp hr
    | succ k =>
     simp only [List.getElem?_cons_succ] at hk ht
     exact q.np k d' t (by omega) hk ht hr
   ·intro v hv
    obtain ⟨d',t,e1,e2,e3,e4,e5,e6,e7⟩ := q.eP v hv
    exact ⟨d',t,by simpa using e1,by simpa using e2,e3,e4,e5,e6,by rw [hsh];exact e7⟩
  split at e
  ·cases e
  ·rename_i hw
   split at e
   ·rename_i l s2 h2 x hl
    simp at e;obtain ⟨rfl,rfl,rfl,rfl⟩ := e
    exact key _ l h0 rfl rfl hw (fun _ => ⟨rfl,rfl⟩) (fun h => by cases h) (fun h => by cases h) hl
   ·cases e
  ·rename_i hw
   split at e
   ·rename_i v hb hv
    cases hpv : panAct d.o.act v with
    | false =>
     rw [hpv] at e
     simp only [cond_false] at e
     split at e
     ·rename_i l s2 h2 x hl
      simp at e;obtain ⟨rfl,rfl,rfl,rfl⟩ := e
      exact key _ l hb rfl rfl hw (fun h => by cases h) (fun _ => hv) (fun _ => hpv) hl
     ·cases e
    | true =>
     rw [hpv] at e
     cases hdp : d.pan with
     | false => rw [hdp] at e;cases e
     | true =>
      rw [hdp] at e
      simp at e;obtain ⟨rfl,rfl,rfl,rfl⟩ := e
      have hh1 : hAt (⟨s0.keep d.slots,h0,true,v⟩ :: blanks hb ds) hb 1 = hb := hAt_blanks hb ds 0
      refine ⟨0,fun k => match k with | 0 => s0 | _ + 1 => setD s0 d.o.dst v,⟨by simp [blanks],rfl,Nat.zero_le _,fun h => (by cases h),?_,rfl,fun k d t hk => absurd hk (Nat.not_lt_zero _),?_⟩⟩
      ·intro k d' t hk hd ht
       obtain rfl : k = 0 := Nat.le_zero.1 hk
       simp at hd ht;subst hd;subst ht
       exact ⟨rfl,hw,rfl,fun h => (by cases h),fun _ => by rw [hh1];exact hv⟩
      ·intro v' hv'
       cases hv'
       exact ⟨d,_,rfl,rfl,rfl,rfl,hpv,hdp,hh1⟩
   ·cases e
theorem Tr.get {dl : List DOp} {s0 : Env} {h0 : H} {ts : List TR} {s1 : Env} {h1 : H} {pn : Nat} {px : Option Value} {envAt : Nat → Env} (q : Tr cf dl s0 h0 ts s1 h1 pn px envAt)
  (hdst : ∀ (k k' : Nat) (d d' : DOp) (t : Nat),dl[k]? = some d → dl[k']? = some d' → d.o.dst = some t → d'.o.dst = some t → k = k') (t : Nat) : ∀ x,x ≤ pn →
  (∀ j d tr,j < x → dl[j]? = some d → ts[j]? = some tr → d.o.dst = some t → (envAt x).get t = tr.val) ∧ ((∀ j d,j < x → dl[j]? = some d → d.o.dst ≠ some t) → (envAt x).get t = s0.get t)
 | 0,_ => ⟨fun j d tr hj => absurd hj (Nat.not_lt_zero _),fun _ => by rw [q.e0]⟩
 | x + 1,hx => by
  obtain ⟨ih1,ih2⟩ := q.get hdst t x (by omega)
  have hxl : x < dl.length := by have := q.ple;omega
  have htl : x < ts.length := by rw [q.len];exact hxl
  have hd : dl[x]? = some dl[x] := by simp [hxl]
  have ht : ts[x]? = some ts[x] := by simp [htl]
  obtain ⟨_,_,hs,_⟩ := q.step x _ _ (by omega) hd ht
  rw [hs]
  have hset : (setD (envAt x) dl[x].o.dst ts[x].val).get t = if dl[x].o.dst = some t then ts[x].val else (envAt x).get t := by
   cases hdd : dl[x].o.dst with
   | none => simp [setD]
   | some u =>
    simp only [setD,Env.get]
    by_cases hut : u = t
    ·subst hut;simp
    ·have : (u == t) = false := by simpa using hut
     rw [this];simp [hut]
  rw [hset]
  constructor
  ·intro j d tr hj hdj htj hdt
   by_cases hjx : j = x
   ·subst hjx
    rw [hd] at hdj;cases hdj
    rw [ht] at htj;cases htj
    rw [if_pos hdt]
   ·rw [if_neg]
    ·exact ih1 j d tr (by omega) hdj htj hdt
    ·intro hc
     exact hjx (hdst j x d _ t hdj hd hdt hc)
  ·intro hno
   rw [if_neg (hno x _ (by omega) hd)]
   exact ih2 fun j d hj hdj => hno j d (by omega) hdj
def isW (dl : List DOp) (k : Nat) : Prop := ∃ d,dl[k]? = some d ∧ clsAct d.o.act = .w
def isA (dl : List DOp) (k : Nat) : Prop := ∃ d,dl[k]? = some d ∧ clsAct d.o.act = .a
structure DOk (P : Program) (n : Nat) (ops : Array Oper) (dl : List DOp) (wins : List (Nat × List Nat)) (bef : Nat → Nat → Prop) : Prop where
 len : dl.length = ops.size
 comp : ∀ (k : Nat) (d : DOp),dl[k]? = some d → ∃ o,ops[d.ix]? = some o ∧ compOper P n ops o = some d.o
 onto : ∀ i,i < ops.size → ∃ (k : Nat) (d : DOp),dl[k]? = some d ∧ d.ix = i
 inj : ∀ (k k' : Nat) (d d' : DOp),dl[k]? = some d → dl[k']? = some d' → d.ix = d'.ix → k = k'
 edge : ∀ (k : Nat) (d : DOp) (o : Oper),dl[k]? = some d → ops[d.ix]? = some o → ∀ e ∈ o.after.toList,Region.binds .any e = true → ∃ (j : Nat) (d' : DOp),j < k ∧ dl[j]? = some d' ∧ d'.ix = e.on
 befp : ∀ x j,bef x j → ∃ (d : DOp) (o : Oper) (e : Edge),dl[x]? = some d ∧ ops[d.ix]? = some o ∧ e ∈ o.after.toList ∧ Region.binds .any e = true ∧ ∃ (j1 : Nat) (d1 : DOp),dl[j1]? = some d1 ∧ d1.ix = e.on ∧ j1 < x ∧ (j1 = j ∨ bef j1 j)
 dst : ∀ (k k' : Nat) (d d' : DOp) (t : Nat),dl[k]? = some d → dl[k']? = some d' → d.o.dst = some t → d'.o.dst = some t → k = k'
 slot : ∀ (x : Nat) (d : DOp) (t : Nat),dl[x]? = some d → t ∈ d.slots → ∀ (j : Nat) (d' : DOp),dl[j]? = some d' → d'.o.dst = some t → j = x ∨ bef x j ∨ bef j x
 wtot : ∀ q1 q2,isW dl q1 → isW dl q2 → q1 < q2 → bef q2 q1
 alate : ∀ a q,isA dl a → isW dl q → q < a → bef a q
 win : ∀ (x : Nat) (d : DOp),dl[x]? = some d → clsAct d.o.act = .r → ∀ p,(p = dl.length ∨ isW dl p) → (∀ q,isW dl q → q < p → ¬ bef q x) → (∀ q,isW dl q → p ≤ q → ¬ bef x q) →
  (x ≤ p ∧ ∀ q,isW dl q → x ≤ q → p ≤ q) ∨ ∃ ps,(x,ps) ∈ wins ∧ p ∈ ps
 pan : ∀ (k : Nat) (d : DOp),dl[k]? = some d → d.pan = true → ∀ j,k < j → j < dl.length → bef j k
theorem befp_lt {dl : List DOp} {wins : List (Nat × List Nat)} {ops : Array Oper} {bef : Nat → Nat → Prop} (K : DOk P n ops dl wins bef) : ∀ (x j : Nat),bef x j → j < x := by
 intro x
 induction x using Nat.strongRecOn with
 | _ x ih =>
  intro j hb
  obtain ⟨_,_,_,_,_,_,_,j1,_,_,_,hlt,hc⟩ := K.befp x j hb
  rcases hc with rfl | hc
  ·exact hlt
  ·exact Nat.lt_trans (ih j1 hlt j hc) hlt
def Closed (ops : Array Oper) (listed : Array Bool) : Prop := ∀ i o,ops[i]? = some o → listed.getD i false = true → ∀ e ∈ o.after.toList,Region.binds .any e = true → listed.getD e.on false = true
def Free (ops : Array Oper) (listed : Array Bool) (i : Nat) : Prop := ∀ o,ops[i]? = some o → ∀ e ∈ o.after.toList,Region.binds .any e = true → listed.getD e.on false = true
section
variable {dl : List DOp} {wins : List (Nat × List Nat)} {ops : Array Oper} {bef : Nat → Nat → Prop} {listed : Array Bool}
def Lst (dl : List DOp) (listed : Array Bool) (k : Nat) : Prop := ∃ d,dl[k]? = some d ∧ listed.getD d.ix false = true
theorem bef_listed (K : DOk P n ops dl wins bef) (hcl : Closed ops listed) : ∀ (x j : Nat) (d : DOp),dl[x]? = some d → (Free ops listed d.ix) → bef x j → Lst dl listed j := by
 intro x
 induction x using Nat.strongRecOn with
 | _ x ih =>
  intro j d hd hf hb
  obtain ⟨d',o,e,h1,h2,h3,h4,j1,d1,h5,h6,hlt,hc⟩ := K.befp x j hb
  rw [hd] at h1;cases h1
  have hl := hf o h2 e h3 h4
  rw [← h6] at hl
  rcases hc with rfl | hc
  ·exact ⟨d1,h5,hl⟩
  ·obtain ⟨o1,ho1,_⟩ := K.comp j1 d1 h5
   exact ih j1 hlt j d1 h5 (fun o ho e he hb => hcl d1.ix o ho hl e he hb) hc
end
structure Mid (P : Program) (n : Nat) (cf : CF) (ops : Array Oper) (dl : List DOp) (ρ0 : Ren) (h0 : H) (w0 : World) (s0 : Env) (a0 : Act) (ts : List TR) (h1 : H) (pn : Nat) (listed : Array Bool) (ρ : Ren) (p : Nat) (a : Act) (w : World) : Prop where
 sz : listed.size = ops.size
 cl : Closed ops listed
 ple : p ≤ dl.length
 ppn : p ≤ pn
 pw : p < dl.length → isW dl p ∧ ¬ Lst dl listed p
 wl : ∀ q,isW dl q → (Lst dl listed q ↔ q < p)
 rel : Rel ρ (hAt ts h1 p) w
 ext : Ext ρ0 h0 w0 ρ (hAt ts h1 p) w
 tsz : a.tmps.size = n
 dfs : a.defers = a0.defers
 on : ∀ (k : Nat) (d : DOp) (tr : TR) (t : Nat),dl[k]? = some d → ts[k]? = some tr → Lst dl listed k → d.o.dst = some t → VR ρ tr.val (a.tmps.getD t undef)
 off : ∀ t,(∀ (k : Nat) (d : DOp),dl[k]? = some d → Lst dl listed k → d.o.dst ≠ some t) → VR ρ (s0.get t) (a.tmps.getD t undef)
 mono : ∀ j k,j ≤ k → k ≤ p → (hAt ts h1 j).size ≤ (hAt ts h1 k).size
 late : ∀ (k : Nat) (tr : TR),isA dl k → ts[k]? = some tr → tr.ran = true → ¬ Lst dl listed k → k < p → ρ tr.hin.size = none ∧ tr.hin.size < (hAt ts h1 p).size ∧ (hAt ts h1 p)[tr.hin.size]? = (hAt ts h1 (k + 1))[tr.hin.size]?
section
variable {dl : List DOp} {wins : List (Nat × List Nat)} {ops : Array Oper} {bef : Nat → Nat → Prop} {listed : Array Bool} {ρ0 : Ren} {h0 : H} {w0 : World} {s0 s1 : Env} {a0 : Act} {ts : List TR} {h1 : H} {p pn : Nat} {px : Option Value} {envAt : Nat → Env}
theorem hAt_of {k : Nat} {tr : TR} (h : ts[k]? = some tr) : hAt ts h1 k = tr.hin := by simp [hAt,h]
theorem next_w (dl : List DOp) : ∀ (f m : Nat),m + f = dl.length → ∃ p',m ≤ p' ∧ p' ≤ dl.length ∧ (p' < dl.length → isW dl p') ∧ ∀ q,isW dl q → m ≤ q → p' ≤ q
 | 0,m,hf => ⟨m,Nat.le_refl _,by omega,fun h => by omega,fun q _ hq => hq⟩
 | f + 1,m,hf => by
  by_cases hw : isW dl m
  ·exact ⟨m,Nat.le_refl _,by omega,fun _ => hw,fun q _ hq => hq⟩
  ·obtain ⟨p',g1,g2,g3,g4⟩ := next_w dl f (m + 1) (by omega)
   refine ⟨p',by omega,g2,g3,fun q hq hm => ?_⟩
   by_cases hqm : q = m
   ·subst hqm;exact absurd hq hw
   ·exact g4 q hq (by omega)
theorem Tr.pnW (q : Tr cf dl s0 h0 ts s1 h1 pn px envAt) (hl : pn < dl.length) : isW dl pn ∧ ∃ v,px = some v := by
 cases px with
 | none => have := (q.eN rfl).1;omega
 | some v =>
  obtain ⟨d,t,e1,e2,e3,e4,e5,e6,e7⟩ := q.eP v rfl
  exact ⟨⟨d,e1,clsAct_pan e5⟩,v,rfl⟩
theorem quiet_step (q : Tr cf dl s0 h0 ts s1 h1 pn px envAt) {k : Nat} (hkp : k < pn) (hw : ¬ isW dl k) : hAt ts h1 (k + 1) = hAt ts h1 k ∨ ∃ x,hAt ts h1 (k + 1) = (hAt ts h1 k).push x := by
 have hk : k < dl.length := Nat.lt_of_lt_of_le hkp q.ple
 have hd : dl[k]? = some dl[k] := by simp [hk]
 have htl : k < ts.length := by rw [q.len];exact hk
 have ht : ts[k]? = some ts[k] := by simp [htl]
 obtain ⟨_,_,_,g4,g5⟩ := q.step k _ _ (Nat.le_of_lt hkp) hd ht
 rw [hAt_of (h1 := h1) ht]
 cases hr : ts[k].ran with
 | false => exact .inl (g4 hr).2
 | true =>
  have e := g5 hr
  cases hact : dl[k].o.act with
  | call f args => exact absurd ⟨_,hd,by rw [hact];rfl⟩ hw
  | invoke tb f args => exact absurd ⟨_,hd,by rw [hact];rfl⟩ hw
  | panic x => exact absurd ⟨_,hd,by rw [hact];rfl⟩ hw
  | op ao =>
   rw [hact] at e
   simp only [evAct] at e
   cases hc : clsOp ao with
   | n => exact .inl (evOp_n hc e).1
   | r => exact .inl (evOp_r hc e).1
   | a =>
    obtain ⟨x,_,_,h2,_⟩ := evOp_a hc e
    exact .inr ⟨x,h2⟩
   | w => exact absurd ⟨_,hd,by rw [hact];exact hc⟩ hw
theorem quiet_chain (q : Tr cf dl s0 h0 ts s1 h1 pn px envAt) {m : Nat} : ∀ (g j : Nat),j = m + g → j ≤ pn → (∀ k,isW dl k → m ≤ k → j ≤ k) →
  (∀ ρ w,Rel ρ (hAt ts h1 m) w → Rel ρ (hAt ts h1 j) w) ∧ (∀ ρ w,Ext ρ0 h0 w0 ρ (hAt ts h1 m) w → Ext ρ0 h0 w0 ρ (hAt ts h1 j) w) ∧ (hAt ts h1 m).size ≤ (hAt ts h1 j).size ∧ ∀ b,b < (hAt ts h1 m).size → (hAt ts h1 j)[b]? = (hAt ts h1 m)[b]?
 | 0,j,hj,_,_ => by subst hj;exact ⟨fun _ _ h => h,fun _ _ h => h,Nat.le_refl _,fun _ _ => rfl⟩
 | g + 1,j,hj,hjl,hno => by
  subst hj
  obtain ⟨i1,i2,i3,i4⟩ := quiet_chain q g (m + g) rfl (by omega) (fun k hk hm => by have := hno k hk hm;omega)
  have hw : ¬ isW dl (m + g) := fun hw => by have := hno _ hw (by omega);omega
  rcases quiet_step q (k := m + g) (by omega) hw with e | ⟨x,e⟩
  ·rw [show m + (g + 1) = m + g + 1 by omega,e]
   exact ⟨i1,i2,i3,i4⟩
  ·rw [show m + (g + 1) = m + g + 1 by omega,e]
   refine ⟨fun ρ w h => (i1 ρ w h).pushNone x,fun ρ w h => (i2 ρ w h).pushNone x,by simp;omega,fun b hb => ?_⟩
   rw [Array.getElem?_push,if_neg (by omega)]
   exact i4 b hb
theorem read_chain (q : Tr cf dl s0 h0 ts s1 h1 pn px envAt) {ao : AOp} (hc : clsOp ao = .r) {s : Env} {v : Value} {m : Nat} (e : evOp ao s (hAt ts h1 m) = some (v,hAt ts h1 m)) : ∀ (g j : Nat),j = m + g → j ≤ pn → (∀ k,isW dl k → m ≤ k → j ≤ k) →
  evOp ao s (hAt ts h1 j) = some (v,hAt ts h1 j)
 | 0,j,hj,_,_ => by subst hj;exact e
 | g + 1,j,hj,hjl,hno => by
  subst hj
  have ih := read_chain q hc e g (m + g) rfl (by omega) (fun k hk hm => by have := hno k hk hm;omega)
  have hw : ¬ isW dl (m + g) := fun hw => by have := hno _ hw (by omega);omega
  rcases quiet_step q (k := m + g) (by omega) hw with e1 | ⟨x,e1⟩
  ·rw [show m + (g + 1) = m + g + 1 by omega,e1];exact ih
  ·rw [show m + (g + 1) = m + g + 1 by omega,e1];exact (evOp_r hc ih).2 x
theorem chks_get : ∀ {ws : List (Nat × List Nat)},chks cf dl ts h1 ws = true → ∀ {x ps p},(x,ps) ∈ ws → p ∈ ps → ∀ {d tr},dl[x]? = some d → ts[x]? = some tr → chk1 cf d tr (hAt ts h1 p) = true
 | (y,qs) :: r,h,x,ps,p,hm,hp,d,tr,hd,ht => by
  simp only [chks,Bool.and_eq_true] at h
  rcases List.mem_cons.1 hm with e | hm
  ·cases e
   rw [hd,ht] at h
   exact (List.all_eq_true.1 h.1) p hp
  ·exact chks_get h.2 hm hp hd ht
theorem lst_set (K : DOk P n ops dl wins bef) (hsz : listed.size = ops.size) {x : Nat} {d : DOp} (hd : dl[x]? = some d) (k : Nat) : Lst dl (listed.setIfInBounds d.ix true) k ↔ (Lst dl listed k ∨ k = x) := by
 obtain ⟨o,ho,_⟩ := K.comp x d hd
 have hi : d.ix < listed.size := by rw [hsz];exact (Array.getElem?_eq_some_iff.1 ho).1
 constructor
 ·rintro ⟨d',h1,h2⟩
  by_cases e : d'.ix = d.ix
  ·exact .inr (K.inj k x d' d h1 hd e)
  ·refine .inl ⟨d',h1,?_⟩
   rw [Array.getD_eq_getD_getElem?,Array.getElem?_setIfInBounds_ne (Ne.symm e)] at h2
   rw [Array.getD_eq_getD_getElem?];exact h2
 ·rintro (⟨d',h1,h2⟩ | rfl)
  ·refine ⟨d',h1,?_⟩
   by_cases e : d'.ix = d.ix
   ·rw [e,Array.getD_eq_getD_getElem?,Array.getElem?_setIfInBounds_self_of_lt hi];rfl
   ·rw [Array.getD_eq_getD_getElem?,Array.getElem?_setIfInBounds_ne (Ne.symm e),← Array.getD_eq_getD_getElem?];exact h2
  ·refine ⟨d,hd,?_⟩
   rw [Array.getD_eq_getD_getElem?,Array.getElem?_setIfInBounds_self_of_lt hi];rfl
theorem getD_set_le {i j : Nat} (h : listed.getD j false = true) : (listed.setIfInBounds i true).getD j false = true := by
 rw [Array.getD_eq_getD_getElem?] at h ⊢
 by_cases e : i = j
 ·subst e
  have hi : i < listed.size := by
   apply Classical.byContradiction
   intro hn
   rw [Array.getElem?_eq_none (by omega)] at h
   cases h
  rw [Array.getElem?_setIfInBounds_self_of_lt hi];rfl
 ·rw [Array.getElem?_setIfInBounds_ne e];exact h
theorem closed_set (hcl : Closed ops listed) {i : Nat} (hf : Free ops listed i) : Closed ops (listed.setIfInBounds i true) := by
 intro j o ho hj e he hb
 by_cases hij : i = j
 ·subst hij
  exact getD_set_le (hf o ho e he hb)
 ·rw [Array.getD_eq_getD_getElem?,Array.getElem?_setIfInBounds_ne hij,← Array.getD_eq_getD_getElem?] at hj
  exact getD_set_le (hcl j o ho hj e he hb)
end
end Go.Ev
namespace Go.Ev
variable {P : Program} {ρ : Ren} {h : H} {a : Act} {w : World} {s : Env} {n : Nat} {cf : CF}
variable {dl : List DOp} {wins : List (Nat × List Nat)} {ops : Array Oper} {bef : Nat → Nat → Prop} {listed : Array Bool} {ρ0 : Ren} {h0 : H} {w0 : World} {s0 s1 : Env} {a0 : Act} {ts : List TR} {h1 : H} {p pn : Nat} {px : Option Value} {envAt : Nat → Env}
theorem getD_put (a : Act) (dst : Option Nat) (v' : Value) (t : Nat) (hn : ∀ d,dst = some d → d < a.tmps.size) : (a.put dst v').tmps.getD t undef = if dst = some t then v' else a.tmps.getD t undef := by
 cases dst with
 | none => simp [Act.put]
 | some d =>
  simp only [Act.put,Array.getD_eq_getD_getElem?]
  by_cases e : d = t
  ·subst e
   rw [Array.getElem?_setIfInBounds_self_of_lt (hn d rfl)];simp
  ·rw [Array.getElem?_setIfInBounds_ne e];simp [e]
theorem put_slots (K : DOk P n ops dl wins bef) {x : Nat} {d : DOp} (hd : dl[x]? = some d) {tr : TR} (ht : ts[x]? = some tr) {ρ ρ' : Ren} (hle : ρ.le ρ') {o : Oper} (ho : ops[d.ix]? = some o) (hco : compOper P n ops o = some d.o) {v' : Value} (hv : VR ρ' tr.val v')
  (hsz : listed.size = ops.size) (tsz : a.tmps.size = n)
  (on : ∀ (k : Nat) (d : DOp) (tr : TR) (t : Nat),dl[k]? = some d → ts[k]? = some tr → Lst dl listed k → d.o.dst = some t → VR ρ tr.val (a.tmps.getD t undef))
  (off : ∀ t,(∀ (k : Nat) (d : DOp),dl[k]? = some d → Lst dl listed k → d.o.dst ≠ some t) → VR ρ (s0.get t) (a.tmps.getD t undef)) :
  (∀ (k : Nat) (d' : DOp) (tr : TR) (t : Nat),dl[k]? = some d' → ts[k]? = some tr → Lst dl (listed.setIfInBounds d.ix true) k → d'.o.dst = some t → VR ρ' tr.val ((a.put o.dst v').tmps.getD t undef)) ∧
  (∀ t,(∀ (k : Nat) (d' : DOp),dl[k]? = some d' → Lst dl (listed.setIfInBounds d.ix true) k → d'.o.dst ≠ some t) → VR ρ' (s0.get t) ((a.put o.dst v').tmps.getD t undef)) := by
 obtain ⟨_,hdd,hdn,_⟩ := compOper_inv hco
 have hn : ∀ q,o.dst = some q → q < a.tmps.size := fun q hq => by rw [tsz];exact hdn q hq
 constructor
 ·intro k d' tr' t hk hk2 hl hdt
  rw [getD_put a o.dst v' t hn]
  by_cases hxk : k = x
  ·subst hxk
   rw [hd] at hk;cases hk
   rw [ht] at hk2;cases hk2
   rw [if_pos (by rw [← hdd];exact hdt)]
   exact hv
  ·rw [if_neg]
   ·rcases (lst_set K hsz hd k).1 hl with h2 | h2
    ·exact (on k d' tr' t hk hk2 h2 hdt).mono hle
    ·exact absurd h2 hxk
   ·intro hc
    exact hxk (K.dst k x d' d t hk hd hdt (by rw [hdd];exact hc))
 ·intro t hno
  rw [getD_put a o.dst v' t hn,if_neg]
  ·exact (off t fun k d' hk hl => hno k d' hk ((lst_set K hsz hd k).2 (.inl hl))).mono hle
  ·intro hc
   exact hno x d hd ((lst_set K hsz hd x).2 (.inr rfl)) (by rw [hdd];exact hc)
theorem rest_get (s : Env) (ops : List DOp) (t : Nat) : (rest s ops).get t = if (ops.all fun d => !(d.o.dst == some t)) = true then s.get t else junk := by
 induction s with
 | nil => simp only [rest,List.filter_nil,Env.get];split <;> rfl
 | cons y s ih =>
  obtain ⟨i,v⟩ := y
  unfold rest at ih ⊢
  simp only [List.filter_cons]
  by_cases hi : i = t
  ·subst hi
   by_cases hc : (ops.all fun d => !(d.o.dst == some i)) = true
   ·rw [if_pos hc,if_pos hc];simp [Env.get]
   ·rw [if_neg hc,if_neg hc,ih,if_neg hc]
  ·have hb : (i == t) = false := by simpa using hi
   split
   ·simp only [Env.get,hb,cond_false];exact ih
   ·rw [ih];simp only [Env.get,hb,cond_false]
set_option maxHeartbeats 2000000 in
theorem mid_step (K : DOk P n ops dl wins bef) (hcf : CallOk P cf) (q : Tr cf dl s0 h0 ts s1 h1 pn px envAt) (r0 : Rel ρ0 h0 w0) (hchk : chks cf dl ts h1 wins = true) (M : Mid P n cf ops dl ρ0 h0 w0 s0 a0 ts h1 pn listed ρ p a w)
  {x : Nat} {d : DOp} (hd : dl[x]? = some d) (hx : ¬ Lst dl listed x) (hf : Free ops listed d.ix) {Kt : Act → World → Prop} {Q : Exit → Act → World → Prop}
  (hP : ∀ x x' ρ' w',px = some (pv x) → VR ρ' x x' → Rel ρ' h1 w' → Ext ρ0 h0 w0 ρ' h1 w' → EnvRel ρ' n (rest s0 dl) a.tmps → Q (.panic [{ v := x',recovered := false }]) a w')
  (hK : ∀ ρ' p' a' w',Mid P n cf ops dl ρ0 h0 w0 s0 a0 ts h1 pn (listed.setIfInBounds d.ix true) ρ' p' a' w' → Kt a' w') : wpOp P ops Q d.ix Kt a w := by
 have hxl : x < dl.length := (List.getElem?_eq_some_iff.1 hd).1
 have htl : x < ts.length := by rw [q.len];exact hxl
 obtain ⟨tr,ht⟩ : ∃ tr,ts[x]? = some tr := ⟨ts[x],by simp [htl]⟩
 have befl0 : ∀ j,bef x j → Lst dl listed j := fun j hb => bef_listed K M.cl x j d hd hf hb
 have hxpn : x ≤ pn := by
  rcases Nat.lt_or_ge pn x with hlt | hge
  ·obtain ⟨hW,v,hv⟩ := q.pnW (by omega)
   obtain ⟨dp,tp,y1,y2,y3,y4,y5,y6,y7⟩ := q.eP v hv
   have hb := K.pan pn dp y1 y6 x hlt hxl
   have := (M.wl pn hW).1 (befl0 pn hb)
   have := M.ppn
   omega
  ·exact hge
 obtain ⟨e1,e2,e3,e4,e5⟩ := q.step x d tr hxpn hd ht
 obtain ⟨o,ho,hco⟩ := K.comp x d hd
 obtain ⟨g1,g2,g3,g4⟩ := compOper_inv hco
 have befl : ∀ j,bef x j → Lst dl listed j := fun j hb => bef_listed K M.cl x j d hd hf hb
 have befl' : ∀ k j,Lst dl listed k → bef k j → Lst dl listed j := by
  rintro k j ⟨dk,hdk,hlk⟩ hb
  exact bef_listed K M.cl k j dk hdk (fun o' ho' e he hb' => M.cl dk.ix o' ho' hlk e he hb') hb
 have henv : EnvRel ρ n tr.env a.tmps := by
  refine ⟨M.tsz,fun t => ?_,M.rel.glb⟩
  rw [e1]
  by_cases hts : t ∈ d.slots
  ·have hk : ((envAt x).keep d.slots).get t = (envAt x).get t ∨ ((envAt x).keep d.slots).get t = junk := get_keep _ _ _
   rcases hk with hk | hk
   ·rw [hk]
    obtain ⟨t1,t2⟩ := q.get K.dst t x hxpn
    by_cases hex : ∃ j d',dl[j]? = some d' ∧ Lst dl listed j ∧ d'.o.dst = some t
    ·obtain ⟨j,d',hj,hlj,hdt⟩ := hex
     have hjl : j < dl.length := (List.getElem?_eq_some_iff.1 hj).1
     have htj : ts[j]? = some (ts[j]'(by rw [q.len];exact hjl)) := by simp [q.len,hjl]
     have hjx : j < x := by
      rcases K.slot x d t hd hts j d' hj hdt with rfl | hb | hb
      ·exact absurd hlj hx
      ·exact befp_lt K x j hb
      ·exact absurd (befl' j x hlj hb) hx
     rw [t1 j d' _ hjx hj htj hdt]
     exact M.on j d' _ t hj htj hlj hdt
    ·rw [t2]
     ·exact M.off t fun k d' hk hl hdt => hex ⟨k,d',hk,hl,hdt⟩
     ·intro j d' hjx hj hdt
      rcases K.slot x d t hd hts j d' hj hdt with rfl | hb | hb
      ·omega
      ·exact hex ⟨j,d',hj,befl j hb,hdt⟩
      ·have := befp_lt K j x hb;omega
   ·rw [hk];exact .junk _
  ·have : ((envAt x).keep d.slots).get t = junk := by
    have hgen : ∀ (l : List Nat),t ∉ l → ((envAt x).keep l).get t = junk := by
     intro l
     induction l with
     | nil => intro _;rfl
     | cons y l ih =>
      intro hn
      simp only [List.mem_cons,not_or] at hn
      simp only [Env.keep,List.map_cons,Env.get]
      have : (y == t) = false := by simpa using Ne.symm hn.1
      rw [this]
      exact ih hn.2
    exact hgen _ hts
   rw [this];exact .junk _
 have hwant : Region.wanted o (yielded ops a.tmps) = tr.ran := by
  unfold wantedA at e2
  rcases g4 with ⟨w1,w2⟩ | ⟨j,b,t,w1,w2,w3⟩
  ·rw [w2] at e2;simp at e2
   rw [e2];simp [Region.wanted,w1]
  ·rw [w2] at e2
   simp only at e2
   split at e2
   ·rename_i c hc
    simp at e2
    have hv := henv.2 t
    rw [hc] at hv
    have hv' := hv.bool_inv
    have hget : a.tmps[t]? = some (.bool c) := by
     rw [Array.getD_eq_getD_getElem?] at hv'
     cases htt : a.tmps[t]? with
     | none => rw [htt] at hv';simp [undef] at hv'
     | some z => rw [htt] at hv';simp at hv';rw [hv']
    rw [← e2]
    simp [Region.wanted,w1,yielded,w3,hget]
   ·rename_i hc
    have e2' := Option.some.inj e2
    have hv := henv.2 t
    rw [hc] at hv
    obtain ⟨l',hv',hl'⟩ := hv.tuple_inv
    cases hl'
    have hy : yielded ops a.tmps j = none := by
     unfold yielded
     rw [w3]
     rw [Array.getD_eq_getD_getElem?] at hv'
     cases htt : a.tmps[t]? with
     | none => simp [htt]
     | some z => rw [htt] at hv';simp at hv';simp [htt,hv']
    rw [← e2']
    simp [Region.wanted,w1,hy]
   ·cases e2
 have hhx : hAt ts h1 x = tr.hin := hAt_of ht
 have hLset := lst_set K M.sz hd
 have hsz' : (listed.setIfInBounds d.ix true).size = ops.size := by simp [M.sz]
 have hcl' := closed_set M.cl hf
 have hWp : isW dl x → x = p := by
  intro hw
  rcases Nat.lt_trichotomy x p with hlt | heq | hgt
  ·exact absurd ((M.wl x hw).2 hlt) hx
  ·exact heq
  ·have hp := M.pw (by omega)
   exact absurd (befl p (K.wtot p x hp.1 hw hgt)) hp.2
 have stay : ¬ isW dl x → ∀ {ρ' : Ren} {a' : Act} {w' : World},ρ.le ρ' → Rel ρ' (hAt ts h1 p) w' → Ext ρ0 h0 w0 ρ' (hAt ts h1 p) w' → a'.tmps.size = n → a'.defers = a0.defers →
   (∀ (k : Nat) (d' : DOp) (tr : TR) (t : Nat),dl[k]? = some d' → ts[k]? = some tr → Lst dl (listed.setIfInBounds d.ix true) k → d'.o.dst = some t → VR ρ' tr.val (a'.tmps.getD t undef)) →
   (∀ t,(∀ (k : Nat) (d' : DOp),dl[k]? = some d' → Lst dl (listed.setIfInBounds d.ix true) k → d'.o.dst ≠ some t) → VR ρ' (s0.get t) (a'.tmps.getD t undef)) →
   (∀ (k : Nat) (tr : TR),isA dl k → ts[k]? = some tr → tr.ran = true → ¬ Lst dl listed k → k ≠ x → k < p → ρ' tr.hin.size = none) →
   Mid P n cf ops dl ρ0 h0 w0 s0 a0 ts h1 pn (listed.setIfInBounds d.ix true) ρ' p a' w' := by
  intro hnw ρ' a' w' hle hr hext hts hdf hon hoff hlate
  refine ⟨hsz',hcl',M.ple,M.ppn,?_,?_,hr,hext,hts,hdf,hon,hoff,M.mono,?_⟩
  ·intro hp
   obtain ⟨p1,p2⟩ := M.pw hp
   refine ⟨p1,fun hl => ?_⟩
   rcases (hLset p).1 hl with h2 | h2
   ·exact p2 h2
   ·subst h2;exact hnw p1
  ·intro k hk
   rw [hLset]
   constructor
   ·rintro (h2 | rfl)
    ·exact (M.wl k hk).1 h2
    ·exact absurd hk hnw
   ·intro h2;exact .inl ((M.wl k hk).2 h2)
  ·intro k tr' hak htk hran hnl hkp
   have hkx : k ≠ x := fun e => hnl ((hLset k).2 (.inr e))
   have hnl' : ¬ Lst dl listed k := fun h2 => hnl ((hLset k).2 (.inl h2))
   obtain ⟨_,l2,l3⟩ := M.late k tr' hak htk hran hnl' hkp
   exact ⟨hlate k tr' hak htk hran hnl' hkx hkp,l2,l3⟩
 have go : x = p → p + 1 ≤ pn → isW dl x → ∀ {ρ' : Ren} {a' : Act} {w' : World},ρ.le ρ' → Rel ρ' (hAt ts h1 (p + 1)) w' → Ext ρ0 h0 w0 ρ' (hAt ts h1 (p + 1)) w' → Ext ρ (hAt ts h1 p) w ρ' (hAt ts h1 (p + 1)) w' → a'.tmps.size = n → a'.defers = a0.defers →
   (∀ (k : Nat) (d' : DOp) (tr : TR) (t : Nat),dl[k]? = some d' → ts[k]? = some tr → Lst dl (listed.setIfInBounds d.ix true) k → d'.o.dst = some t → VR ρ' tr.val (a'.tmps.getD t undef)) →
   (∀ t,(∀ (k : Nat) (d' : DOp),dl[k]? = some d' → Lst dl (listed.setIfInBounds d.ix true) k → d'.o.dst ≠ some t) → VR ρ' (s0.get t) (a'.tmps.getD t undef)) →
   ∃ p',Mid P n cf ops dl ρ0 h0 w0 s0 a0 ts h1 pn (listed.setIfInBounds d.ix true) ρ' p' a' w' := by
  intro hxp hppn hw ρ' a' w' hle hr hext hstep hts hdf hon hoff
  obtain ⟨p',n1,n2,n3,n4⟩ := next_w dl (dl.length - (p + 1)) (p + 1) (by omega)
  have hpp : p' ≤ pn := by
   rcases Nat.lt_or_ge pn dl.length with h2 | h2
   ·exact n4 pn (q.pnW h2).1 hppn
   ·exact Nat.le_trans n2 h2
  obtain ⟨c1,c2,c3,c4⟩ := quiet_chain (ρ0 := ρ0) (h0 := h0) (w0 := w0) q (p' - (p + 1)) p' (m := p + 1) (by omega) hpp n4
  have hmono : ∀ k,k ≤ p' → ∀ j,j ≤ k → (hAt ts h1 j).size ≤ (hAt ts h1 k).size := by
   intro k hk j hj
   by_cases hkp : k ≤ p
   ·exact M.mono j k hj hkp
   ·obtain ⟨_,_,c3',_⟩ := quiet_chain (ρ0 := ρ0) (h0 := h0) (w0 := w0) q (k - (p + 1)) k (m := p + 1) (by omega) (by omega) (fun z hz hz2 => by have := n4 z hz hz2;omega)
    by_cases hjp : j ≤ p
    ·have a1 := M.mono j p hjp (Nat.le_refl _)
     have a2 := hstep.hsz
     omega
    ·obtain ⟨_,_,c5',_⟩ := quiet_chain (ρ0 := ρ0) (h0 := h0) (w0 := w0) q (k - j) k (m := j) (by omega) (by omega) (fun z hz hz2 => by have := n4 z hz (by omega);omega)
     exact c5'
  refine ⟨p',hsz',hcl',n2,hpp,?_,?_,c1 _ _ hr,c2 _ _ hext,hts,hdf,hon,hoff,fun j k hj hk => hmono k hk j hj,?_⟩
  ·intro hp
   refine ⟨n3 hp,fun hl => ?_⟩
   rcases (hLset p').1 hl with h2 | h2
   ·have := (M.wl p' (n3 hp)).1 h2;omega
   ·omega
  ·intro k hk
   rw [hLset]
   constructor
   ·rintro (h2 | rfl)
    ·have := (M.wl k hk).1 h2;omega
    ·omega
   ·intro h2
    by_cases hkp : k < p
    ·exact .inl ((M.wl k hk).2 hkp)
    ·by_cases hkp2 : k = p
     ·exact .inr (by omega)
     ·have := n4 k hk (by omega);omega
  ·intro k tr' hak htk hran hnl hkp
   have hnl' : ¬ Lst dl listed k := fun h2 => hnl ((hLset k).2 (.inl h2))
   have hks : hAt ts h1 k = tr'.hin := hAt_of htk
   have hk1 : (hAt ts h1 (k + 1)).size = (hAt ts h1 k).size + 1 := by
    obtain ⟨dk,hdk,hck⟩ := hak
    obtain ⟨_,_,_,_,s5⟩ := q.step k dk tr' (by omega) hdk htk
    have s5 := s5 hran
    cases hact : dk.o.act with
    | call f args => rw [hact] at hck;simp [clsAct] at hck
    | invoke tb f args => rw [hact] at hck;simp [clsAct] at hck
    | panic y => rw [hact] at hck;simp [clsAct] at hck
    | op ao =>
     rw [hact] at s5 hck
     obtain ⟨z,_,_,hz,_⟩ := evOp_a hck s5
     rw [hz,hks];simp
   by_cases hkp1 : k < p
   ·obtain ⟨l1,l2,l3⟩ := M.late k tr' hak htk hran hnl' hkp1
    refine ⟨?_,?_,?_⟩
    ·cases hq : ρ' tr'.hin.size with
     | none => rfl
     | some i =>
      rcases hstep.nw _ i hq with h2 | ⟨h2,_⟩
      ·rw [l1] at h2;cases h2
      ·omega
    ·have := hmono p' (Nat.le_refl _) p (by omega);omega
    ·have a2 := hstep.hsz
     rw [c4 _ (by omega),hstep.af _ l2 l1];exact l3
   ·have hkp2 : p < k := by
     rcases Nat.lt_or_ge p k with h2 | h2
     ·exact h2
     ·have : k = p := by omega
      subst this
      obtain ⟨dk,hdk,hck⟩ := hak
      obtain ⟨dw,hdw,hcw⟩ := hw
      rw [← hxp] at hdk
      rw [hdk] at hdw;cases hdw
      rw [hck] at hcw;cases hcw
    have hge : (hAt ts h1 (p + 1)).size ≤ (hAt ts h1 k).size := hmono k (by omega) (p + 1) (by omega)
    refine ⟨?_,?_,?_⟩
    ·cases hq : ρ' tr'.hin.size with
     | none => rfl
     | some i =>
      have := hr.dom _ i hq
      rw [← hks] at this
      omega
    ·have := hmono p' (Nat.le_refl _) (k + 1) (by omega)
     rw [← hks];omega
    ·obtain ⟨_,_,_,c6⟩ := quiet_chain (ρ0 := ρ0) (h0 := h0) (w0 := w0) q (p' - (k + 1)) p' (m := k + 1) (by omega) hpp (fun z hz hz2 => n4 z hz (by omega))
     exact c6 _ (by rw [← hks];omega)
 unfold wpOp
 rw [ho]
 simp only [hwant]
 have hput : ∀ v',(a.put o.dst v').tmps.size = n := fun v' => by
  cases o.dst <;> simp [Act.put,M.tsz]
 have hdfs : ∀ v',(a.put o.dst v').defers = a0.defers := fun v' => by
  rw [← M.dfs];cases o.dst <;> rfl
 cases hran : tr.ran with
 | false =>
  rw [if_neg (by simp)]
  obtain ⟨e6,e7⟩ := e4 hran
  obtain ⟨on',off'⟩ := put_slots K hd ht (Ren.le.refl ρ) ho hco (v' := undef) (by rw [e6];exact .tuple .nil) M.sz M.tsz M.on M.off
  by_cases hw : isW dl x
  ·have hxp := hWp hw
   subst hxp
   have hlt : x + 1 ≤ pn := by
    rcases Nat.lt_or_ge x pn with h2 | h2
    ·exact h2
    ·obtain rfl : x = pn := by omega
     obtain ⟨_,v,hv⟩ := q.pnW hxl
     obtain ⟨dp,tp,y1,y2,y3,_⟩ := q.eP v hv
     rw [ht] at y2;cases y2
     rw [hran] at y3;cases y3
   obtain ⟨p',M'⟩ := go rfl hlt hw (Ren.le.refl ρ) (by rw [e7,← hhx];exact M.rel) (by rw [e7,← hhx];exact M.ext) (by rw [e7,← hhx];exact .refl _ _ _) (hput undef) (hdfs undef) on' off'
   exact hK _ _ _ _ M'
  ·exact hK _ _ _ _ (stay hw (Ren.le.refl ρ) M.rel M.ext (hput undef) (hdfs undef) on' off' fun k tr' hak htk hr2 hnl _ hkp => (M.late k tr' hak htk hr2 hnl hkp).1)
 | true =>
  rw [if_pos rfl]
  refine .inl ?_
  have e5 := e5 hran
  have plain : ¬ isW dl x → (evAct cf d.o.act tr.env (hAt ts h1 p) = some (tr.val,hAt ts h1 p)) → o.wp P a w Kt Q := by
   intro hnw ev
   have hnp : panAct d.o.act tr.val = false := by
    cases hpv : panAct d.o.act tr.val with
    | false => rfl
    | true => exact absurd ⟨d,hd,clsAct_pan hpv⟩ hnw
   refine (evAct_sound o g1 hcf M.rel henv ev).1 hnp (fun _ _ => False) Kt Q ?_ (fun _ _ hf => hf.elim)
   rintro v' w' ⟨ρ',hv,hr,hx2⟩
   obtain ⟨on',off'⟩ := put_slots K hd ht hx2.le ho hco hv M.sz M.tsz M.on M.off
   refine hK _ _ _ _ (stay hnw hx2.le hr (Ext.trans r0 M.ext hx2) (hput v') (hdfs v') on' off' ?_)
   intro k tr' hak htk hr2 hnl _ hkp
   obtain ⟨l1,l2,_⟩ := M.late k tr' hak htk hr2 hnl hkp
   cases hq : ρ' tr'.hin.size with
   | none => rfl
   | some i =>
    rcases hx2.nw _ i hq with h2 | ⟨h2,_⟩
    ·rw [l1] at h2;cases h2
    ·omega
  cases hcls : clsAct d.o.act with
  | n =>
   have hnw : ¬ isW dl x := by rintro ⟨d2,hd2,hc2⟩;rw [hd] at hd2;cases hd2;rw [hcls] at hc2;cases hc2
   refine plain hnw ?_
   cases hact : d.o.act with
   | call f args => rw [hact] at hcls;simp [clsAct] at hcls
   | invoke tb f args => rw [hact] at hcls;simp [clsAct] at hcls
   | panic y => rw [hact] at hcls;simp [clsAct] at hcls
   | op ao =>
    rw [hact] at e5 hcls
    exact (evOp_n hcls e5).2 _
  | r =>
   have hnw : ¬ isW dl x := by rintro ⟨d2,hd2,hc2⟩;rw [hd] at hd2;cases hd2;rw [hcls] at hc2;cases hc2
   refine plain hnw ?_
   have hpcond : p = dl.length ∨ isW dl p := by
    rcases Nat.lt_or_ge p dl.length with h2 | h2
    ·exact .inr (M.pw h2).1
    ·exact .inl (Nat.le_antisymm M.ple h2)
   have hw1 : ∀ z,isW dl z → z < p → ¬ bef z x := fun z hz hzp hb => hx (befl' z x ((M.wl z hz).2 hzp) hb)
   have hw2 : ∀ z,isW dl z → p ≤ z → ¬ bef x z := fun z hz hzp hb => by
    have := (M.wl z hz).1 (befl z hb);omega
   cases hact : d.o.act with
   | call f args => rw [hact] at hcls;simp [clsAct] at hcls
   | invoke tb f args => rw [hact] at hcls;simp [clsAct] at hcls
   | panic y => rw [hact] at hcls;simp [clsAct] at hcls
   | op ao =>
    have hcls2 := hcls
    rw [hact] at e5 hcls2
    simp only [clsAct] at hcls2
    simp only [evAct] at e5 ⊢
    have hsame := (evOp_r hcls2 e5).1
    rcases K.win x d hd hcls p hpcond hw1 hw2 with ⟨x1,x2⟩ | ⟨ps,x1,x2⟩
    ·refine read_chain q hcls2 (m := x) ?_ (p - x) p (by omega) M.ppn x2
     rw [hhx];rw [e5,hsame]
    ·have hck := chks_get hchk x1 x2 hd ht
     unfold chk1 at hck
     rw [hran,hact] at hck
     simp only [evAct,Bool.not_true,Bool.false_or] at hck
     split at hck
     ·rename_i v2 h2 hv2
      have hv2e := sameV_eq hck
      subst hv2e
      rw [hv2,(evOp_r hcls2 hv2).1]
     ·cases hck
  | w =>
   have hw : isW dl x := ⟨d,hd,hcls⟩
   have hxp := hWp hw
   subst hxp
   rw [← hhx] at e5
   cases hpv : panAct d.o.act tr.val with
   | true =>
    obtain rfl : x = pn := by
     rcases Nat.lt_or_ge x pn with h2 | h2
     ·have := q.np x d tr h2 hd ht hran
      rw [hpv] at this;cases this
     ·omega
    obtain ⟨_,v,hv⟩ := q.pnW hxl
    obtain ⟨dp,tp,y1,y2,y3,y4,y5,y6,y7⟩ := q.eP v hv
    rw [ht] at y2;cases y2
    rw [y7] at e5
    refine (evAct_sound o g1 hcf M.rel henv e5).2 hpv (fun _ _ => False) Kt Q (fun _ _ hf => hf.elim) ?_
    rintro ch w' ⟨y,y',ρ',hy,rfl,hv2,hr,hx2⟩
    refine hP y y' ρ' w' (by rw [hv,← y4,hy]) hv2 hr (Ext.trans r0 M.ext hx2) ⟨M.tsz,fun t => ?_,hr.glb⟩
    rw [rest_get]
    split
    ·rename_i hall
     refine (M.off t fun k d' hk _ hdt => ?_).mono hx2.le
     have := List.all_eq_true.1 hall d' (List.mem_of_getElem? hk)
     rw [hdt] at this
     simp at this
    ·exact .junk _
   | false =>
   have hlt : x + 1 ≤ pn := by
    rcases Nat.lt_or_ge x pn with h2 | h2
    ·exact h2
    ·obtain rfl : x = pn := by omega
     obtain ⟨_,v,hv⟩ := q.pnW hxl
     obtain ⟨dp,tp,y1,y2,y3,y4,y5,_⟩ := q.eP v hv
     rw [ht] at y2;cases y2
     rw [hd] at y1;cases y1
     rw [y4,y5] at hpv;cases hpv
   refine (evAct_sound o g1 hcf M.rel henv e5).1 hpv (fun _ _ => False) Kt Q ?_ (fun _ _ hf => hf.elim)
   rintro v' w' ⟨ρ',hv,hr,hx2⟩
   obtain ⟨on',off'⟩ := put_slots K hd ht hx2.le ho hco hv M.sz M.tsz M.on M.off
   obtain ⟨p',M'⟩ := go rfl hlt hw hx2.le hr (Ext.trans r0 M.ext hx2) hx2 (hput v') (hdfs v') on' off'
   exact hK _ _ _ _ M'
  | a =>
   have hA : isA dl x := ⟨d,hd,hcls⟩
   have hnw : ¬ isW dl x := by rintro ⟨d2,hd2,hc2⟩;rw [hd] at hd2;cases hd2;rw [hcls] at hc2;cases hc2
   have hxp : x < p := by
    rcases Nat.lt_trichotomy x p with h2 | h2 | h2
    ·exact h2
    ·subst h2;exact absurd (M.pw hxl).1 hnw
    ·have hp := M.pw (by omega)
     exact absurd (befl p (K.alate x p hA hp.1 h2)) hp.2
   obtain ⟨l1,l2,l3⟩ := M.late x tr hA ht hran hx hxp
   cases hact : d.o.act with
   | call f args => rw [hact] at hcls;simp [clsAct] at hcls
   | invoke tb f args => rw [hact] at hcls;simp [clsAct] at hcls
   | panic y => rw [hact] at hcls;simp [clsAct] at hcls
   | op ao =>
    have hcls2 := hcls
    rw [hact] at e5 hcls2
    simp only [clsAct] at hcls2
    simp only [evAct] at e5
    obtain ⟨xb,b1,b2,b3,b4⟩ := evOp_a hcls2 e5
    have hao : compOp P o.op = some ao := by
     unfold compAct at g1
     split at g1
     ·rw [hact] at g1;cases g1
     ·rw [hact] at g1;cases g1
     ·rw [hact] at g1;cases g1
     ·obtain ⟨z,hz,hzz⟩ := Option.map_eq_some_iff.1 g1
      rw [hact] at hzz;cases hzz;exact hz
    obtain ⟨v',obj,i,c1,c2,c3,c4⟩ := goodA (w := w) o hao hcls2 M.rel henv b1
    have hblk : (hAt ts h1 p)[tr.hin.size]? = some xb := by rw [l3,b3];simp
    have hle : ρ.le (ρ.put tr.hin.size i) := fun c j hc => by
     have : c ≠ tr.hin.size := fun e => by subst e;rw [l1] at hc;cases hc
     simp [Ren.put,this,hc]
    have hr := adopt_rel M.rel l1 hblk obj i c2 (c3 _ hle) b4
    have hge : h0.size ≤ tr.hin.size := by
     have := M.mono 0 x (Nat.zero_le _) (by omega)
     rw [q.h0,hhx] at this;exact this
    have hext := adopt_ext M.ext l1 hge obj i c2
    have hv : VR (ρ.put tr.hin.size i) tr.val v' := by rw [b2];exact c4 _ _ (by simp [Ren.put])
    obtain ⟨on',off'⟩ := put_slots K hd ht hle ho hco hv M.sz M.tsz M.on M.off
    have hdone : Kt (a.put o.dst v') (w.alloc obj) := by
     refine hK _ _ _ _ (stay hnw hle hr hext (hput v') (hdfs v') on' off' ?_)
     intro k tr' hak htk hr2 hnl hkx hkp
     obtain ⟨m1,m2,_⟩ := M.late k tr' hak htk hr2 hnl hkp
     have hks : hAt ts h1 k = tr'.hin := hAt_of htk
     have hne : tr'.hin.size ≠ tr.hin.size := by
      have grow : ∀ (y : Nat) (ty : TR),y ≤ pn → isA dl y → ts[y]? = some ty → ty.ran = true → (hAt ts h1 (y + 1)).size = (hAt ts h1 y).size + 1 := by
       intro y ty hyp hay hty hry
       obtain ⟨dy,hdy,hcy⟩ := hay
       obtain ⟨_,_,_,_,s5⟩ := q.step y dy ty hyp hdy hty
       have s5 := s5 hry
       cases hact2 : dy.o.act with
       | call f args => rw [hact2] at hcy;simp [clsAct] at hcy
       | invoke tb f args => rw [hact2] at hcy;simp [clsAct] at hcy
       | panic y => rw [hact2] at hcy;simp [clsAct] at hcy
       | op ao2 =>
        rw [hact2] at s5 hcy
        obtain ⟨z,_,_,hz,_⟩ := evOp_a hcy s5
        rw [hz,hAt_of (h1 := h1) hty];simp
      rcases Nat.lt_or_ge k x with h2 | h2
      ·have a1 := grow k tr' (by have := M.ppn;omega) hak htk hr2
       have a2 := M.mono (k + 1) x (by omega) (by omega)
       rw [← hks,← hhx];omega
      ·have a1 := grow x tr hxpn hA ht hran
       have a2 := M.mono (x + 1) k (by omega) (by omega)
       rw [← hks,← hhx];omega
     simp [Ren.put,hne,m1]
    exact OpWp.of_does (post := fun u z => u = v' ∧ z = w.alloc obj) (pan := fun _ _ => False) c1 ⟨rfl,rfl⟩ Kt Q (by rintro u z ⟨rfl,rfl⟩;exact hdone) (fun _ _ hf => hf.elim)
end Go.Ev
namespace Go.Ev
variable {P : Program} {ρ : Ren} {h : H} {a : Act} {w : World} {s : Env} {n : Nat} {cf : CF}
variable {dl : List DOp} {wins : List (Nat × List Nat)} {ops : Array Oper} {bef : Nat → Nat → Prop} {listed : Array Bool} {ρ0 : Ren} {h0 : H} {w0 : World} {s0 s1 : Env} {a0 : Act} {ts : List TR} {h1 : H} {p pn : Nat} {px : Option Value} {envAt : Nat → Env}
def leftOf (ops : Array Oper) (listed : Array Bool) : Nat := (List.range ops.size).countP fun i => !listed.getD i false
theorem countP_lt {α : Type} {p q : α → Bool} : ∀ {l : List α},(∀ x ∈ l,q x = true → p x = true) → ∀ {y},y ∈ l → p y = true → q y = false → l.countP q < l.countP p
 | x :: l,hle,y,hy,hp,hq => by
  have hmono : l.countP q ≤ l.countP p := List.countP_mono_left fun z hz => hle z (List.mem_cons_of_mem _ hz)
  rw [List.countP_cons,List.countP_cons]
  rcases List.mem_cons.1 hy with rfl | hy
  ·simp [hp,hq];omega
  ·have ih := countP_lt (fun z hz => hle z (List.mem_cons_of_mem _ hz)) hy hp hq
   have hx := hle x (List.mem_cons_self ..)
   cases hqx : q x with
   | true => simp [hx hqx];omega
   | false => simp;split <;> omega
theorem left_set {i : Nat} (hsz : listed.size = ops.size) (hi : i < ops.size) (hl : listed.getD i false = false) : leftOf ops (listed.setIfInBounds i true) < leftOf ops listed := by
 unfold leftOf
 refine countP_lt (y := i) ?_ (by simpa using hi) (by simp [hl]) ?_
 ·intro x _ hx
  by_cases e : i = x
  ·subst e;simp [hl]
  ·rw [Array.getD_eq_getD_getElem?,Array.getElem?_setIfInBounds_ne e,← Array.getD_eq_getD_getElem?] at hx
   exact hx
 ·rw [Array.getD_eq_getD_getElem?,Array.getElem?_setIfInBounds_self_of_lt (by rw [hsz];exact hi)];rfl
theorem ready_mem {i : Nat} (hsz : listed.size = ops.size) : i ∈ Region.ready .any ops listed ↔ (i < ops.size ∧ listed.getD i false = false ∧ Free ops listed i) := by
 unfold Region.ready
 rw [List.mem_filter]
 simp only [List.mem_range,Bool.and_eq_true,Bool.not_eq_true']
 constructor
 ·rintro ⟨hi,hl,hf⟩
  refine ⟨hi,?_,?_⟩
  ·rw [Array.getD_eq_getD_getElem?] at hl ⊢
   have : i < listed.size := by omega
   simp [this] at hl ⊢;exact hl
  ·intro o ho e he hb
   rw [ho] at hf
   simp only [Option.map_some,Option.getD_some] at hf
   have := (Array.all_eq_true_iff_forall_mem.1 hf) e (by simpa using he)
   simpa [hb] using this
 ·rintro ⟨hi,hl,hf⟩
  refine ⟨hi,?_,?_⟩
  ·rw [Array.getD_eq_getD_getElem?] at hl ⊢
   have : i < listed.size := by omega
   simp [this] at hl ⊢;exact hl
  ·obtain ⟨o,ho⟩ : ∃ o,ops[i]? = some o := ⟨ops[i],by simp [hi]⟩
   rw [ho]
   simp only [Option.map_some,Option.getD_some]
   refine Array.all_eq_true_iff_forall_mem.2 fun e he => ?_
   cases hb : Region.binds .any e with
   | false => simp
   | true => simp [hf o ho e (by simpa using he) hb]
theorem all_done (K : DOk P n ops dl wins bef) (hsz : listed.size = ops.size) (hr : Region.ready .any ops listed = []) : ∀ k,k < dl.length → Lst dl listed k := by
 intro k
 induction k using Nat.strongRecOn with
 | _ k ih =>
  intro hk
  obtain ⟨d,hd⟩ : ∃ d,dl[k]? = some d := ⟨dl[k],by simp [hk]⟩
  obtain ⟨o,ho,_⟩ := K.comp k d hd
  have hi : d.ix < ops.size := (Array.getElem?_eq_some_iff.1 ho).1
  apply Classical.byContradiction
  intro hn
  have hl : listed.getD d.ix false = false := by
   cases hc : listed.getD d.ix false with
   | false => rfl
   | true => exact absurd ⟨d,hd,hc⟩ hn
  have hf : Free ops listed d.ix := by
   intro o' ho' e he hb
   rw [ho] at ho';cases ho'
   obtain ⟨j,d',hj,hdj,hix⟩ := K.edge k d o hd ho e he hb
   obtain ⟨d2,hd2,hl2⟩ := ih j hj (by omega)
   rw [hdj] at hd2;cases hd2
   rw [← hix];exact hl2
  have : d.ix ∈ Region.ready .any ops listed := (ready_mem hsz).2 ⟨hi,hl,hf⟩
  rw [hr] at this
  cases this
theorem mid_any (K : DOk P n ops dl wins bef) (hcf : CallOk P cf) (q : Tr cf dl s0 h0 ts s1 h1 pn px envAt) (r0 : Rel ρ0 h0 w0) (hchk : chks cf dl ts h1 wins = true) {Q : Exit → Act → World → Prop}
  (hP : ∀ x x' ρ' a w',px = some (pv x) → VR ρ' x x' → Rel ρ' h1 w' → Ext ρ0 h0 w0 ρ' h1 w' → EnvRel ρ' n (rest s0 dl) a.tmps → a.defers = a0.defers → Q (.panic [{ v := x',recovered := false }]) a w')
  (hq : ∀ ρ a w,px = none → Rel ρ h1 w → EnvRel ρ n s1 a.tmps → Ext ρ0 h0 w0 ρ h1 w → a.defers = a0.defers → Q .normal a w) : ∀ (fuel : Nat) (listed : Array Bool) (ρ : Ren) (p : Nat) (a : Act) (w : World),
  Mid P n cf ops dl ρ0 h0 w0 s0 a0 ts h1 pn listed ρ p a w → leftOf ops listed ≤ fuel → wpAny P .any ops Q fuel listed a w := by
 have fin : ∀ (listed : Array Bool) (ρ : Ren) (p : Nat) (a : Act) (w : World),Mid P n cf ops dl ρ0 h0 w0 s0 a0 ts h1 pn listed ρ p a w → Region.ready .any ops listed = [] → Q .normal a w := by
  intro listed ρ p a w M hr
  have hall := all_done K M.sz hr
  have hp : p = dl.length := by
   rcases Nat.lt_or_ge p dl.length with h2 | h2
   ·exact absurd (hall p h2) (M.pw h2).2
   ·exact Nat.le_antisymm M.ple h2
  subst hp
  have hpx : px = none := by
   cases hx : px with
   | none => rfl
   | some v =>
    obtain ⟨d,_,e1,_⟩ := q.eP v hx
    have := (List.getElem?_eq_some_iff.1 e1).1
    have := M.ppn
    omega
  obtain ⟨hpn,heN⟩ := q.eN hpx
  have hh1 : hAt ts h1 dl.length = h1 := by simp [hAt,q.len]
  have hrel := M.rel
  have hext := M.ext
  rw [hh1] at hrel hext
  refine hq ρ a w hpx hrel ⟨M.tsz,fun t => ?_,hrel.glb⟩ hext M.dfs
  rw [← heN]
  obtain ⟨t1,t2⟩ := q.get K.dst t dl.length (by omega)
  by_cases hex : ∃ (j : Nat) (d : DOp),dl[j]? = some d ∧ d.o.dst = some t
  ·obtain ⟨j,d,hj,hdt⟩ := hex
   have hjl : j < dl.length := (List.getElem?_eq_some_iff.1 hj).1
   have htj : ts[j]? = some (ts[j]'(by rw [q.len];exact hjl)) := by simp [q.len,hjl]
   rw [t1 j d _ hjl hj htj hdt]
   exact M.on j d _ t hj htj (hall j hjl) hdt
  ·rw [t2 fun j d _ hj hdt => hex ⟨j,d,hj,hdt⟩]
   exact M.off t fun k d hk _ hdt => hex ⟨k,d,hk,hdt⟩
 intro fuel
 induction fuel with
 | zero =>
  intro listed ρ p a w M hl
  have hr : Region.ready .any ops listed = [] := by
   apply List.eq_nil_iff_forall_not_mem.2
   intro i hi
   obtain ⟨h2,h3,_⟩ := (ready_mem M.sz).1 hi
   have : 0 < leftOf ops listed := by
    unfold leftOf
    rw [List.countP_pos_iff]
    exact ⟨i,by simpa using h2,by simp [h3]⟩
   omega
  exact ⟨hr,fin listed ρ p a w M hr⟩
 | succ fuel ih =>
  intro listed ρ p a w M hl
  refine ⟨fin listed ρ p a w M,?_⟩
  intro i hi
  obtain ⟨h2,h3,h4⟩ := (ready_mem M.sz).1 hi
  obtain ⟨k,d,hk,rfl⟩ := K.onto i h2
  have hnl : ¬ Lst dl listed k := by
   rintro ⟨d2,hd2,hl2⟩
   rw [hk] at hd2;cases hd2
   rw [h3] at hl2;cases hl2
  refine mid_step K hcf q r0 hchk M hk hnl h4 (fun x x' ρ' w' hx hv hr he hs => hP x x' ρ' a w' hx hv hr he hs M.dfs) ?_
  intro ρ' p' a' w' M'
  have := left_set M.sz h2 h3
  exact ih _ ρ' p' a' w' M' (by omega)
def predsD (ops : Array Oper) (dl : List DOp) (k : Nat) : List Nat :=
 match dl[k]? with
 | some d => match ops[d.ix]? with
  | some o => (o.after.toList.filter (Region.binds .any)).map fun e => dl.findIdx fun x => x.ix == e.on
  | none => []
 | none => []
def befsD (preds : List (List Nat)) : List (List Nat) := preds.foldl (fun acc ps => acc ++ [(List.range acc.length).filter fun j => ps.contains j || ps.any fun m => (acc.getD m []).contains j]) []
def clsB (c : Cls) (d : DOp) : Bool := clsAct d.o.act == c
def winOf (N : Nat) (W : List Nat) (bef : Nat → Nat → Bool) (x : Nat) : List Nat :=
 (W ++ [N]).filter fun p => (W.all fun q => !(q < p) || !bef q x) && (W.all fun q => !(p ≤ q) || !bef x q) && !((decide (x ≤ p)) && W.all fun q => !(decide (x ≤ q)) || decide (p ≤ q))
def okD (ops : Array Oper) (dl : List DOp) (preds befs : List (List Nat)) (wins : List (Nat × List Nat)) : Bool :=
 let N := dl.length
 let bef := fun x j => (befs.getD x []).contains j
 let R := List.range N
 let at' := fun k => dl.getD k default
 let W := R.filter fun k => clsB .w (at' k)
 (N == ops.size) &&
 (R.all fun k => preds.getD k [] == predsD ops dl k) &&
 ((List.range ops.size).all fun i => R.any fun k => (at' k).ix == i) &&
 (R.all fun k => R.all fun k' => !((at' k).ix == (at' k').ix) || k == k') &&
 (R.all fun k => (preds.getD k []).all fun j => decide (j < k)) &&
 (R.all fun x => (befs.getD x []).all fun j => (preds.getD x []).any fun j1 => decide (j1 < x) && (j1 == j || bef j1 j)) &&
 (R.all fun k => R.all fun k' => !((at' k).o.dst == (at' k').o.dst && (at' k).o.dst.isSome) || k == k') &&
 (R.all fun x => (at' x).slots.all fun t => R.all fun j => !((at' j).o.dst == some t) || (j == x || bef x j || bef j x)) &&
 (W.all fun q1 => W.all fun q2 => !(decide (q1 < q2)) || bef q2 q1) &&
 (R.all fun x => !(clsB .a (at' x)) || W.all fun q => !(decide (q < x)) || bef x q) &&
 (R.all fun x => !(clsB .r (at' x)) || (winOf N W bef x).all fun p => wins.any fun y => y.1 == x && y.2.contains p) &&
 (R.all fun k => !(at' k).pan || R.all fun j => !(decide (k < j)) || bef j k)
def slotsOf (x : AOper) : List Nat → List Nat := fun l => match x.guard with
 | some (t,_) => t :: l
 | none => l
def opTmps (o : Op) : List Nat := o.operands.toList.filterMap fun
 | .tmp t => some t
 | _ => none
def mkD (P : Program) (n : Nat) (ops : Array Oper) : List Nat → Option (List DOp)
 | [] => some []
 | i :: r => match ops[i]? with
  | some o => match compOper P n ops o,mkD P n ops r with
   | some x,some l => some (⟨i,x,slotsOf x (opTmps o.op),false⟩ :: l)
   | _,_ => none
  | none => none
def isAllocOp (o : Op) : Bool := match o with
 | .alloc _ => true
 | _ => false
def ordD (ops : Array Oper) : List Nat :=
 let R := List.range ops.size
 (R.filter fun i => ((ops[i]?).map fun o => isAllocOp o.op).getD false) ++ (R.filter fun i => !((ops[i]?).map fun o => isAllocOp o.op).getD false)
def isCallA : AAct → Bool
 | .op _ => false
 | _ => true
def panD (befs : List (List Nat)) (dl : List DOp) : List DOp := (List.range dl.length).map fun k =>
 let d := dl.getD k default
 { d with pan := isCallA d.o.act && (List.range dl.length).all fun j => !(decide (k < j)) || (befs.getD j []).contains k }
def compD (P : Program) (n : Nat) (ops : Array Oper) : Option (List DOp × List (Nat × List Nat)) :=
 match mkD P n ops (ordD ops) with
 | some dl0 =>
  let preds := (List.range dl0.length).map (predsD ops dl0)
  let befs := befsD preds
  let dl := panD befs dl0
  let N := dl.length
  let W := (List.range N).filter fun k => clsB .w (dl.getD k default)
  let wins := ((List.range N).filter fun k => clsB .r (dl.getD k default)).filterMap fun x =>
   match winOf N W (fun x j => (befs.getD x []).contains j) x with
   | [] => none
   | l => some (x,l)
  if okD ops dl preds befs wins = true then some (dl,wins) else none
 | none => none
theorem getD_of {k : Nat} {d : DOp} (h : dl[k]? = some d) : dl.getD k default = d := by rw [List.getD_eq_getElem?_getD,h];rfl
theorem or_of {a b : Bool} (h : (!a || b) = true) (ha : a = true) : b = true := by rw [ha] at h;simpa using h
def BefP (dl : List DOp) (befs : List (List Nat)) (x j : Nat) : Prop := x < dl.length ∧ (befs.getD x []).contains j = true
theorem okD_sound {preds befs : List (List Nat)} (hm : ∀ (k : Nat) (d : DOp),dl[k]? = some d → ∃ o,ops[d.ix]? = some o ∧ compOper P n ops o = some d.o) (hok : okD ops dl preds befs wins = true) : DOk P n ops dl wins (BefP dl befs) := by
 unfold okD at hok
 simp only [Bool.and_eq_true,List.all_eq_true,List.mem_range,beq_iff_eq] at hok
 obtain ⟨⟨⟨⟨⟨⟨⟨⟨⟨⟨⟨c1,c2⟩,c3⟩,c4⟩,c5⟩,c6⟩,c7⟩,c8⟩,c9⟩,c10⟩,c11⟩,c12⟩ := hok
 have lt : ∀ {k : Nat} {d : DOp},dl[k]? = some d → k < dl.length := fun h => (List.getElem?_eq_some_iff.1 h).1
 have edge : ∀ (k : Nat) (d : DOp) (o : Oper),dl[k]? = some d → ops[d.ix]? = some o → ∀ e ∈ o.after.toList,Region.binds .any e = true → ∃ (j : Nat) (d' : DOp),j < k ∧ dl[j]? = some d' ∧ d'.ix = e.on ∧ j ∈ preds.getD k [] := by
  intro k d o hd ho e he hb
  have hj : (dl.findIdx fun x => x.ix == e.on) ∈ preds.getD k [] := by
   rw [c2 k (lt hd)]
   unfold predsD
   rw [hd]
   simp only [ho]
   exact List.mem_map.2 ⟨e,List.mem_filter.2 ⟨he,hb⟩,rfl⟩
  have hlt := c5 k (lt hd) _ hj
  simp at hlt
  have hjl : (dl.findIdx fun x => x.ix == e.on) < dl.length := by have := lt hd;omega
  refine ⟨_,dl[dl.findIdx fun x => x.ix == e.on],hlt,by simp [hjl],?_,hj⟩
  have := List.findIdx_getElem (w := hjl)
  simpa using this
 have mW : ∀ q,isW dl q → q ∈ (List.range dl.length).filter fun k => clsB .w (dl.getD k default) := by
  rintro q ⟨d,hd,hc⟩
  refine List.mem_filter.2 ⟨by simpa using lt hd,?_⟩
  rw [getD_of hd];simp [clsB,hc]
 have mW' : ∀ q,q ∈ (List.range dl.length).filter (fun k => clsB .w (dl.getD k default)) → isW dl q := by
  intro q hq
  obtain ⟨h1,h2⟩ := List.mem_filter.1 hq
  have hql : q < dl.length := by simpa using h1
  have hd : dl[q]? = some dl[q] := by simp [hql]
  rw [getD_of hd] at h2
  exact ⟨_,hd,by simpa [clsB] using h2⟩
 refine ⟨c1,hm,?_,?_,?_,?_,?_,?_,?_,?_,?_,?_⟩
 ·intro i hi
  have := c3 i hi
  rw [List.any_eq_true] at this
  obtain ⟨k,hk,hix⟩ := this
  have hkl : k < dl.length := by simpa using hk
  have hd : dl[k]? = some dl[k] := by simp [hkl]
  rw [getD_of hd] at hix
  exact ⟨k,_,hd,by simpa using hix⟩
 ·intro k k' d d' hd hd' hix
  have := or_of (c4 k (lt hd) k' (lt hd')) (by rw [getD_of hd,getD_of hd'];simpa using hix)
  simpa using this
 ·intro k d o hd ho e he hb
  obtain ⟨j,d',h1,h2,h3,_⟩ := edge k d o hd ho e he hb
  exact ⟨j,d',h1,h2,h3⟩
 ·rintro x j ⟨hx,hb⟩
  have hj := c6 x hx j (by simpa using hb)
  rw [List.any_eq_true] at hj
  obtain ⟨j1,hj1,hc⟩ := hj
  simp only [Bool.and_eq_true,decide_eq_true_eq,Bool.or_eq_true,beq_iff_eq] at hc
  obtain ⟨hlt,hc⟩ := hc
  have hd : dl[x]? = some dl[x] := by simp [hx]
  obtain ⟨o,ho,_⟩ := hm x _ hd
  have hj1' := hj1
  rw [c2 x hx] at hj1'
  unfold predsD at hj1'
  rw [hd] at hj1'
  simp only [ho] at hj1'
  obtain ⟨e,he,heq⟩ := List.mem_map.1 hj1'
  obtain ⟨he1,he2⟩ := List.mem_filter.1 he
  have hj1l : j1 < dl.length := by omega
  refine ⟨dl[x],o,e,hd,ho,he1,he2,j1,dl[j1],by simp [hj1l],?_,hlt,?_⟩
  ·subst heq
   have := List.findIdx_getElem (w := hj1l)
   simpa using this
  ·rcases hc with hc | hc
   ·exact .inl hc
   ·exact .inr ⟨hj1l,hc⟩
 ·intro k k' d d' t hd hd' ht ht'
  have := or_of (c7 k (lt hd) k' (lt hd')) (by rw [getD_of hd,getD_of hd',ht,ht'];simp)
  simpa using this
 ·intro x d t hd ht j d' hd' hdt
  have := or_of (c8 x (lt hd) t (by rw [getD_of hd];exact ht) j (lt hd')) (by rw [getD_of hd',hdt];simp)
  simp only [Bool.or_eq_true,beq_iff_eq] at this
  rcases this with (h2 | h2) | h2
  ·exact .inl h2
  ·exact .inr (.inl ⟨lt hd,h2⟩)
  ·exact .inr (.inr ⟨lt hd',h2⟩)
 ·intro q1 q2 h1 h2 hlt
  have := or_of (c9 q1 (mW q1 h1) q2 (mW q2 h2)) (by simpa using hlt)
  obtain ⟨d,hd,_⟩ := h2
  exact ⟨lt hd,this⟩
 ·rintro x q ⟨d,hd,hc⟩ hq hlt
  have h1 := or_of (c10 x (lt hd)) (by rw [getD_of hd];simp [clsB,hc])
  rw [List.all_eq_true] at h1
  have := or_of (h1 q (mW q hq)) (by simpa using hlt)
  exact ⟨lt hd,this⟩
 ·intro x d hd hc p hp hw1 hw2
  by_cases hnext : x ≤ p ∧ ∀ q,isW dl q → x ≤ q → p ≤ q
  ·exact .inl hnext
  ·refine .inr ?_
   have h1 := or_of (c11 x (lt hd)) (by rw [getD_of hd];simp [clsB,hc])
   rw [List.all_eq_true] at h1
   have hmem : p ∈ winOf dl.length ((List.range dl.length).filter fun k => clsB .w (dl.getD k default)) (fun x j => (befs.getD x []).contains j) x := by
    unfold winOf
    refine List.mem_filter.2 ⟨?_,?_⟩
    ·rcases hp with rfl | hp
     ·simp
     ·exact List.mem_append.2 (.inl (mW p hp))
    ·simp only [Bool.and_eq_true,List.all_eq_true,Bool.or_eq_true,Bool.not_eq_true']
     refine ⟨⟨?_,?_⟩,?_⟩
     ·intro q hq
      by_cases hlt : q < p
      ·refine .inr ?_
       have hqw := mW' q hq
       have := hw1 q hqw hlt
       obtain ⟨dq,hdq,_⟩ := hqw
       cases hb : (befs.getD q []).contains x with
       | false => rfl
       | true => exact absurd ⟨lt hdq,hb⟩ this
      ·exact .inl (by simpa using hlt)
     ·intro q hq
      by_cases hle : p ≤ q
      ·refine .inr ?_
       have := hw2 q (mW' q hq) hle
       cases hb : (befs.getD x []).contains q with
       | false => rfl
       | true => exact absurd ⟨lt hd,hb⟩ this
      ·exact .inl (by simpa using hle)
     ·cases hbb : (decide (x ≤ p) && ((List.range dl.length).filter fun k => clsB .w (dl.getD k default)).all fun q => !decide (x ≤ q) || decide (p ≤ q)) with
      | false => rfl
      | true =>
       simp only [Bool.and_eq_true,List.all_eq_true,decide_eq_true_eq] at hbb
       refine absurd ⟨hbb.1,fun q hq hxq => ?_⟩ hnext
       have := or_of (hbb.2 q (mW q hq)) (by simpa using hxq)
       simpa using this
   have h2 := h1 p hmem
   rw [List.any_eq_true] at h2
   obtain ⟨y,hy,hc2⟩ := h2
   simp only [Bool.and_eq_true,beq_iff_eq] at hc2
   refine ⟨y.2,?_,by simpa using hc2.2⟩
   rw [← hc2.1];exact hy
 ·intro k d hd hp j hkj hj
  have h2 := c12 k (lt hd)
  rw [getD_of hd] at h2
  have h3 := or_of h2 hp
  simp only [List.all_eq_true,List.mem_range] at h3
  exact ⟨hj,or_of (h3 j hj) (by simpa using hkj)⟩
theorem mkD_get : ∀ {l : List Nat} {dl : List DOp},mkD P n ops l = some dl → ∀ (k : Nat) (d : DOp),dl[k]? = some d → ∃ o,ops[d.ix]? = some o ∧ compOper P n ops o = some d.o
 | [],dl,e,k,d,hk => by simp [mkD] at e;subst e;simp at hk
 | i :: r,dl,e,k,d,hk => by
  unfold mkD at e
  split at e
  ·rename_i o ho
   split at e
   ·rename_i x l hx hl
    cases e
    cases k with
    | zero => simp at hk;subst hk;exact ⟨o,ho,hx⟩
    | succ k => exact mkD_get hl k d (by simpa using hk)
   ·cases e
  ·cases e
theorem panD_get {befs : List (List Nat)} {dl : List DOp} {k : Nat} {d : DOp} (h : (panD befs dl)[k]? = some d) : ∃ d0,dl[k]? = some d0 ∧ d.ix = d0.ix ∧ d.o = d0.o := by
 unfold panD at h
 rw [List.getElem?_map] at h
 obtain ⟨y,hy,hf⟩ := Option.map_eq_some_iff.1 h
 obtain ⟨h1,h2⟩ := List.getElem?_eq_some_iff.1 hy
 simp at h1 h2
 subst h2
 have hd : dl[k]? = some dl[k] := by simp [h1]
 refine ⟨_,hd,?_,?_⟩ <;> rw [← hf,getD_of hd]
theorem evRegionD_sound {cx : Cx} {ds : Ds} {id : Nat} {ops : Array Oper} {l : List DOp × List (Nat × List Nat)} (hm : P.follows .mixedOrders = true) (hc : compD P n ops = some l) (hcf : CallOk P cx.c) (r : Rel ρ h w) (he : EnvRel ρ n s a.tmps) {res : Value × H} {k : Env → H → Res}
  (e : evRegionD cx l.1 l.2 s h ds k = some res) {Q : Exit → Act → World → Prop}
  (hP : ∀ ρ' s' h' a' w' x x',cx.p (pv x) s' h' ds = some res → VR ρ' x x' → Rel ρ' h' w' → EnvRel ρ' n s' a'.tmps → Ext ρ h w ρ' h' w' → a'.defers = a.defers → Q (.panic [{ v := x',recovered := false }]) a' w')
  (hq : ∀ ρ' s' h' a' w',k s' h' = some res → Rel ρ' h' w' → EnvRel ρ' n s' a'.tmps → Ext ρ h w ρ' h' w' → a'.defers = a.defers → Q .normal a' w') : (Code.region id ops true).wp P Q a w := by
 unfold compD at hc
 split at hc
 ·rename_i dl0 hdl
  simp only [] at hc
  split at hc
  ·rename_i hok
   obtain ⟨dl',wins⟩ := l
   injection hc with hc
   injection hc with hc1 hc2
   generalize hpre : panD _ dl0 = dl at *
   subst hc1
   rw [hc2] at hok
   simp only at e
   have K := okD_sound (fun k d hk => by
    rw [← hpre] at hk
    obtain ⟨d0,q1,q2,q3⟩ := panD_get hk
    rw [q2,q3];exact mkD_get hdl k d0 q1) hok
   unfold evRegionD at e
   split at e
   ·rename_i ts s1 h1 px htr
    split at e
    ·rename_i hchk
     obtain ⟨pn,envAt,q⟩ := trace_tr htr
     refine wp_region_any hm ?_
     have hrel : Rel ρ h { w with drawn := w.drawn + 1 } := r.drawn _
     have hback : ∀ {ρ' h' w'},Ext ρ h { w with drawn := w.drawn + 1 } ρ' h' w' → Ext ρ h w ρ' h' w' := fun x => ⟨x.le,x.hsz,x.wsz,x.af,x.cf,x.nw,x.dull,x.io⟩
     obtain ⟨p',n1,n2,n3,n4⟩ := next_w dl dl.length 0 (by omega)
     have hpp : p' ≤ pn := by
      rcases Nat.lt_or_ge pn dl.length with h2 | h2
      ·exact n4 pn (q.pnW h2).1 (Nat.zero_le _)
      ·exact Nat.le_trans n2 h2
     obtain ⟨c1,c2,c3,c4⟩ := quiet_chain (ρ0 := ρ) (h0 := h) (w0 := { w with drawn := w.drawn + 1 }) q p' p' (m := 0) (by omega) hpp n4
     have hh0 : hAt ts h1 0 = h := q.h0
     have hnl : ∀ k,¬ Lst dl (Array.replicate ops.size false) k := by
      rintro k ⟨d,hd,hl⟩
      rw [Array.getD_eq_getD_getElem?] at hl
      by_cases hi : d.ix < ops.size
      ·simp [hi] at hl
      ·simp [hi] at hl
     have M : Mid P n cx.c ops dl ρ h { w with drawn := w.drawn + 1 } s a ts h1 pn (Array.replicate ops.size false) ρ p' a { w with drawn := w.drawn + 1 } := by
      refine ⟨by simp,?_,n2,hpp,fun hp => ⟨n3 hp,hnl p'⟩,?_,c1 _ _ (by rw [hh0];exact hrel),c2 _ _ (by rw [hh0];exact .refl _ _ _),he.1,rfl,fun k d tr t _ _ hl _ => absurd hl (hnl k),fun t _ => he.2 t,?_,?_⟩
      ·intro i o _ hl
       rw [Array.getD_eq_getD_getElem?] at hl
       by_cases hi : i < ops.size <;> simp [hi] at hl
      ·intro q' hq'
       exact ⟨fun hl => absurd hl (hnl q'),fun hlt => by have := n4 q' hq' (Nat.zero_le _);omega⟩
      ·intro j k' hj hk'
       obtain ⟨_,_,c5,_⟩ := quiet_chain (ρ0 := ρ) (h0 := h) (w0 := w) q (k' - j) k' (m := j) (by omega) (by omega) (fun z hz hz2 => by have := n4 z hz (Nat.zero_le _);omega)
       exact c5
      ·intro k' tr hak htk hran _ hkp
       have hks : hAt ts h1 k' = tr.hin := hAt_of htk
       have hge : h.size ≤ tr.hin.size := by
        obtain ⟨_,_,c5,_⟩ := quiet_chain (ρ0 := ρ) (h0 := h) (w0 := w) q k' k' (m := 0) (by omega) (by omega) (fun z hz hz2 => by have := n4 z hz (Nat.zero_le _);omega)
        rw [hh0,hks] at c5;exact c5
       have hk1 : (hAt ts h1 (k' + 1)).size = (hAt ts h1 k').size + 1 := by
        obtain ⟨dk,hdk,hck⟩ := hak
        obtain ⟨_,_,_,_,s5⟩ := q.step k' dk tr (by omega) hdk htk
        have s5 := s5 hran
        cases hact : dk.o.act with
        | call f args => rw [hact] at hck;simp [clsAct] at hck
        | invoke tb f args => rw [hact] at hck;simp [clsAct] at hck
        | panic y => rw [hact] at hck;simp [clsAct] at hck
        | op ao =>
         rw [hact] at s5 hck
         obtain ⟨z,_,_,hz,_⟩ := evOp_a hck s5
         rw [hz,hks];simp
       obtain ⟨_,_,c5,c6⟩ := quiet_chain (ρ0 := ρ) (h0 := h) (w0 := w) q (p' - (k' + 1)) p' (m := k' + 1) (by omega) hpp (fun z hz hz2 => n4 z hz (by omega))
       have hks2 := congrArg Array.size hks
       refine ⟨?_,by omega,c6 _ (by omega)⟩
       cases hz : ρ tr.hin.size with
       | none => rfl
       | some i => have := r.dom _ i hz;omega
     refine mid_any K hcf q hrel hchk ?_ ?_ ops.size _ ρ p' a _ M ?_
     ·intro x x' ρ' a' w' hx hv hr hxt he' hd
      subst hx
      exact hP ρ' _ h1 a' w' x x' e hv hr he' (hback hxt) hd
     ·intro ρ' a' w' hx hr he' hxt hd
      subst hx
      exact hq ρ' s1 h1 a' w' e hr he' (hback hxt) hd
     ·unfold leftOf
      exact Nat.le_trans List.countP_le_length (by simp)
    ·cases e
   ·cases e
  ·cases hc
 ·cases hc
end Go.Ev
namespace Go.Ev
variable {P : Program} {ρ : Ren} {h : H} {a : Act} {w : World} {s : Env} {n : Nat} {cf : CF}
inductive DsRel (ρ : Ren) : Ds → List Deferred → Prop
 | nil : DsRel ρ [] []
 | cons {d : ADef} {cap' args' : List Value} {ds : Ds} {l : List Deferred} (h : VRs ρ d.args (args' ++ cap')) (t : DsRel ρ ds l) :
   DsRel ρ (d :: ds) ({ target := .fn (.func d.fn) ⟨cap'⟩,args := ⟨args'⟩ } :: l)
theorem DsRel.mono {ρ ρ' : Ren} (hle : ρ.le ρ') {ds : Ds} {l : List Deferred} (h : DsRel ρ ds l) : DsRel ρ' ds l := by
 induction h with
 | nil => exact .nil
 | cons h _ ih => exact .cons (h.mono hle) ih
def At (n : Nat) (ρ0 : Ren) (h0 : H) (w0 : World) (k : K) (res : Value × H) (a : Act) (w : World) : Prop :=
 ∃ ρ s h ds,Rel ρ h w ∧ EnvRel ρ n s a.tmps ∧ DsRel ρ ds a.defers ∧ Ext ρ0 h0 w0 ρ h w ∧ k s h ds = some res
def QQ (n : Nat) (cx : Cx) (ρ0 : Ren) (h0 : H) (w0 : World) (kn : K) (ke : Nat → K) (kr : K) (res : Value × H) : Exit → Act → World → Prop
 | .normal,a,w => At n ρ0 h0 w0 kn res a w
 | .exit i,a,w => At n ρ0 h0 w0 (ke i) res a w
 | .ret,a,w => At n ρ0 h0 w0 kr res a w
 | .panic ch,a,w => ∃ ρ s h ds x x',Rel ρ h w ∧ EnvRel ρ n s a.tmps ∧ DsRel ρ ds a.defers ∧ Ext ρ0 h0 w0 ρ h w ∧ cx.p (pv x) s h ds = some res ∧ ch = [{ v := x',recovered := false }] ∧ VR ρ x x'
 | _,_,_ => False
theorem At.from {ρ0 ρ1 : Ren} {h0 h1 : H} {w0 w1 : World} {k : K} {res : Value × H} (r0 : Rel ρ0 h0 w0) (x : Ext ρ0 h0 w0 ρ1 h1 w1) (h : At n ρ1 h1 w1 k res a w) : At n ρ0 h0 w0 k res a w := by
 obtain ⟨ρ,s,h,ds,r,he,hd,hx,e⟩ := h
 exact ⟨ρ,s,h,ds,r,he,hd,Ext.trans r0 x hx,e⟩
theorem QQ.from {cx : Cx} {ρ0 ρ1 : Ren} {h0 h1 : H} {w0 w1 : World} {kn : K} {ke : Nat → K} {kr : K} {res : Value × H} (r0 : Rel ρ0 h0 w0) (x : Ext ρ0 h0 w0 ρ1 h1 w1) {e : Exit} (h : QQ n cx ρ1 h1 w1 kn ke kr res e a w) : QQ n cx ρ0 h0 w0 kn ke kr res e a w := by
 cases e with
 | normal => exact At.from r0 x h
 | exit i => exact At.from r0 x h
 | ret => exact At.from r0 x h
 | panic ch =>
  obtain ⟨ρ,s,h,ds,y,y',q1,q2,q3,q4,q5,q6⟩ := h
  exact ⟨ρ,s,h,ds,y,y',q1,q2,q3,Ext.trans r0 x q4,q5,q6⟩
 | _ => exact h
def compC (P : Program) (n : Nat) : Code → List (List Nat) → Option (ACode × List (List Nat))
 | .skip,ks => some (.skip,ks)
 | .region _ ops false,k :: ks =>
  match ops.back? with
  | some { op := .defer { callee := .value f,args,.. },dst := none,guard := none,.. } =>
   (compOpers P n ops ops.toList.dropLast).map fun l => (.defer l f args.toList k,ks)
  | _ => (compOpers P n ops ops.toList).map fun l => (.region l k,ks)
 | .region _ ops true,k :: ks => (compD P n ops).map fun l => (.regionD l.1 l.2 k,ks)
 | .seq x y,ks => match compC P n x ks with
  | some (x',ks1) => match compC P n y ks1 with
   | some (y',ks2) => some (.seq x' y',ks2)
   | none => none
  | none => none
 | .cond c x y,ks => match compC P n x ks with
  | some (x',ks1) => match compC P n y ks1 with
   | some (y',ks2) => some (.cond c x' y',ks2)
   | none => none
  | none => none
 | .block id c,ks => (compC P n c ks).map fun p => (.block id p.1,p.2)
 | .loop c,k :: ks => (compC P n c ks).map fun p => (.loop k p.1,p.2)
 | .exit id,ks => some (.exit id,ks)
 | .ret,ks => some (.ret,ks)
 | _,_ => none
theorem back_of {α : Type} {ops : Array α} {o : α} (hb : ops.back? = some o) : ops.toList = ops.toList.dropLast ++ [o] := by
 have h1 : ops.toList.getLast? = some o := by rw [← hb];simp [Array.back?,List.getLast?_eq_getElem?]
 rw [List.getLast?_eq_some_iff] at h1
 obtain ⟨l,hl⟩ := h1
 rw [hl];simp
set_option maxHeartbeats 1000000 in
theorem evC_sound {cx : Cx} (hm : P.follows .mixedOrders = true) (hcf : CallOk P cx.c) (F : Nat) (res : Value × H) : ∀ (c : Code) (ks : List (List Nat)) (ac : ACode) (ks' : List (List Nat)),compC P n c ks = some (ac,ks') →
  ∀ (kn : K) (ke : Nat → K) (kr : K) (ρ : Ren) (h : H) (a : Act) (w : World) (s : Env) (ds : Ds),Rel ρ h w → EnvRel ρ n s a.tmps → DsRel ρ ds a.defers → evC F cx ac kn ke kr s h ds = some res →
  c.wp P (QQ n cx ρ h w kn ke kr res) a w := by
 intro c
 induction c with
 | skip =>
  intro ks ac ks' hc kn ke kr ρ h a w s ds r he hd e
  simp [compC] at hc;obtain ⟨rfl,rfl⟩ := hc
  exact wp_skip ⟨ρ,s,h,ds,r,he,hd,.refl _ _ _,e⟩
 | region id ops draw =>
  intro ks ac ks' hc kn ke kr ρ h a w s ds r he hd e
  cases draw with
  | true =>
   cases ks with
   | nil => simp [compC] at hc
   | cons k ks =>
    simp only [compC] at hc
    obtain ⟨l,hl,hf⟩ := Option.map_eq_some_iff.1 hc
    cases hf
    simp only [evC] at e
    refine evRegionD_sound hm hl hcf r he e ?_ ?_
    ·intro ρ' s' h' a' w' x x' e' hv r' he' x2 hdd
     exact ⟨ρ',s',h',ds,x,x',r',he',by rw [hdd];exact hd.mono x2.le,x2,e',rfl,hv⟩
    intro ρ' s' h' a' w' e' r' he' x' hdd
    exact ⟨ρ',_,h',ds,r',he'.keep _,by rw [hdd];exact hd.mono x'.le,x',e'⟩
  | false =>
   cases ks with
   | nil => simp [compC] at hc
   | cons k ks =>
    simp only [compC] at hc
    refine wp_region_list ?_
    split at hc
    ·rename_i f args ts ty pos aft hb
     obtain ⟨l,hl,hf⟩ := Option.map_eq_some_iff.1 hc
     cases hf
     simp only [evC] at e
     rw [back_of hb]
     refine evOps_sound hcf _ l hl r he e (fun ρ' s' h' a' w' y y' e' hv r' he' x2 hdd => ⟨ρ',s',h',ds,y,y',r',he',by rw [hdd];exact hd.mono x2.le,x2,e',rfl,hv⟩) ?_
     intro ρ' s' h' a' w' e' r' he' x' hdd
     split at e'
     ·rename_i d hdef
      unfold evDefer at hdef
      split at hdef
      ·rename_i g first cap hfv
       cases hdef
       have hv := aeval_sound he' f
       rw [hfv] at hv
       generalize hev : a'.eval f = fv at *
       cases hv
       rename_i fs' cs' hfs hcs
       simp only [wpList]
       have hw : ∀ y,Region.wanted { dst := none,op := .defer { callee := .value f,args := args,argTypes := ts },type := ty,pos := pos,after := aft,guard := none } y = true := fun y => rfl
       rw [if_pos (hw _)]
       refine .inl ?_
       unfold Oper.wp
       simp only [execOp,resolve,Sem.run_bind,hev,Deferred.ofValue,Sem.run_pure,Result.andThen_ok]
       show QQ n cx ρ h w kn ke kr res .normal _ w'
       refine ⟨ρ',_,h',_,r',he'.keep _,?_,x',e'⟩
       show DsRel ρ' _ ({ target := .fn (.func g) ⟨cs'⟩,args := ⟨fs'⟩ ++ args.map a'.eval } :: a'.defers)
       have harr : (⟨fs'⟩ ++ args.map a'.eval : Array Value) = ⟨fs' ++ args.toList.map a'.eval⟩ := by apply Array.ext';simp
       rw [harr]
       refine .cons ?_ (by rw [hdd];exact hd.mono x'.le)
       exact (hfs.append (aeval_map he' args.toList)).append hcs
      ·cases hdef
     ·cases e'
    ·obtain ⟨l,hl,hf⟩ := Option.map_eq_some_iff.1 hc
     cases hf
     simp only [evC] at e
     have := evOps_sound (rest := []) (Q := QQ n cx ρ h w kn ke kr res) hcf ops.toList l hl r he e (fun ρ' s' h' a' w' y y' e' hv r' he' x2 hdd => ⟨ρ',s',h',ds,y,y',r',he',by rw [hdd];exact hd.mono x2.le,x2,e',rfl,hv⟩) (by
      intro ρ' s' h' a' w' e' r' he' x' hdd
      exact ⟨ρ',_,h',ds,r',he'.keep _,by rw [hdd];exact hd.mono x'.le,x',e'⟩)
     simpa using this
 | seq x y ihx ihy =>
  intro ks ac ks' hc kn ke kr ρ h a w s ds r he hd e
  simp only [compC] at hc
  split at hc
  ·rename_i x' ks1 hx
   split at hc
   ·rename_i y' ks2 hy
    cases hc
    simp only [evC] at e
    refine wp_seq (wp_mono (ihx _ _ _ hx _ _ _ _ _ _ _ _ _ r he hd e) ?_)
    intro ex a1 w1 hq
    cases ex with
    | normal =>
     obtain ⟨ρ1,s1,h1,ds1,r1,he1,hd1,x1,e1⟩ := hq
     exact wp_mono (ihy _ _ _ hy _ _ _ _ _ _ _ _ _ r1 he1 hd1 e1) fun ex a2 w2 hq2 => hq2.from r x1
    | _ => exact hq
   ·cases hc
  ·cases hc
 | cond c x y ihx ihy =>
  intro ks ac ks' hc kn ke kr ρ h a w s ds r he hd e
  simp only [compC] at hc
  split at hc
  ·rename_i x' ks1 hx
   split at hc
   ·rename_i y' ks2 hy
    cases hc
    simp only [evC] at e
    have hv := aeval_sound he c
    split at e
    ·rename_i hcv
     rw [hcv] at hv
     exact wp_cond_true hv.bool_inv (ihx _ _ _ hx _ _ _ _ _ _ _ _ _ r he hd e)
    ·rename_i hcv
     rw [hcv] at hv
     exact wp_cond_false hv.bool_inv (ihy _ _ _ hy _ _ _ _ _ _ _ _ _ r he hd e)
    ·cases e
   ·cases hc
  ·cases hc
 | block id c ih =>
  intro ks ac ks' hc kn ke kr ρ h a w s ds r he hd e
  simp only [compC] at hc
  obtain ⟨p,hp,hf⟩ := Option.map_eq_some_iff.1 hc
  cases hf
  simp only [evC] at e
  refine wp_block (wp_mono (ih _ _ _ (by rw [hp]) _ _ _ _ _ _ _ _ _ r he hd e) ?_)
  intro ex a1 w1 hq
  cases ex with
  | exit i =>
   simp only [Exit.inBlock,QQ] at hq ⊢
   by_cases hi : i = id
   ·rw [if_pos hi] at hq ⊢;exact hq
   ·rw [if_neg hi] at hq ⊢;exact hq
  | _ => exact hq
 | loop c ih =>
  intro ks ac ks' hc kn ke kr ρ h a w s ds r he hd e
  cases ks with
  | nil => simp [compC] at hc
  | cons k ks =>
   simp only [compC] at hc
   obtain ⟨p,hp,hf⟩ := Option.map_eq_some_iff.1 hc
   cases hf
   simp only [evC] at e
   refine wp_loop_rounds F ?_
   have key : ∀ (f : Nat) (ρ1 : Ren) (h1 : H) (a1 : Act) (w1 : World) (s1 : Env) (ds1 : Ds),Rel ρ1 h1 w1 → EnvRel ρ1 n s1 a1.tmps → DsRel ρ1 ds1 a1.defers → Ext ρ h w ρ1 h1 w1 →
     evLoop (fun again => evC F cx p.1 (fun s h ds => again (s.keep k) h ds) ke kr) f s1 h1 ds1 = some res → Code.rounds P c (QQ n cx ρ h w kn ke kr res) f a1 w1 := by
    intro f
    induction f with
    | zero => intro _ _ _ _ _ _ _ _ _ _ e;cases e
    | succ f ihf =>
     intro ρ1 h1 a1 w1 s1 ds1 r1 he1 hd1 x1 e1
     rw [rounds_succ]
     simp only [evLoop] at e1
     refine wp_mono (ih _ _ _ (by rw [hp]) _ _ _ _ _ _ _ _ _ r1 he1 hd1 e1) ?_
     intro ex a2 w2 hq
     cases ex with
     | normal =>
      obtain ⟨ρ2,s2,h2,ds2,r2,he2,hd2,x2,e2⟩ := hq
      exact ihf ρ2 h2 a2 w2 _ ds2 r2 (he2.keep _) hd2 (Ext.trans r x1 x2) e2
     | _ => exact hq.from r x1
   exact key F ρ h a w _ ds r (he.keep _) hd (.refl _ _ _) e
 | exit id =>
  intro ks ac ks' hc kn ke kr ρ h a w s ds r he hd e
  simp [compC] at hc;obtain ⟨rfl,rfl⟩ := hc
  exact wp_exit ⟨ρ,s,h,ds,r,he,hd,.refl _ _ _,e⟩
 | ret =>
  intro ks ac ks' hc kn ke kr ρ h a w s ds r he hd e
  simp [compC] at hc;obtain ⟨rfl,rfl⟩ := hc
  exact wp_ret ⟨ρ,s,h,ds,r,he,hd,.refl _ _ _,e⟩
 | _ => intro ks ac ks' hc;simp [compC] at hc
end Go.Ev
namespace Go.Ev
variable {P : Program} {ρ : Ren} {h : H} {a : Act} {w : World} {s : Env} {n : Nat} {cf : CF}
inductive ARes where
 | tmp (t : Nat)
 | cell1 (t : Nat)
 | cellN (t n : Nat)
 deriving Inhabited
structure AFn where
 ntmps : Nat
 body : ACode
 results : List ARes
 deriving Inhabited
def evRes1 (s : Env) (h : H) : ARes → Option Value
 | .tmp t => some (s.get t)
 | .cell1 t => match s.get t with
  | .pointer (some ⟨b,o,none⟩) => (rd h b o 1).bind one?
  | _ => none
 | .cellN t m => match s.get t with
  | .pointer (some ⟨b,o,none⟩) => (rd h b o m).map fun l => .agg ⟨l⟩
  | _ => none
def evResL (s : Env) (h : H) : List ARes → Option (List Value)
 | [] => some []
 | x :: r => match evRes1 s h x,evResL s h r with
  | some v,some l => some (v :: l)
  | _,_ => none
def packRes : List Value → Value
 | [v] => v
 | l => .tuple ⟨l⟩
def unpan : Value → Value
 | .tuple ⟨[_,_,x]⟩ => x
 | _ => junk
def evLast (rs : List ARes) (s : Env) (h : H) : Res := match evResL s h rs with
 | some l => bif isPan (packRes l) then none else some (packRes l,h)
 | none => none
def evEnd (cf : DCF) (rs : List ARes) (s : Env) : Ds → H → Option Value → Res
 | [],h,none => evLast rs s h
 | [],h,some x => some (pv x,h)
 | d :: ds,h,m => match cf d.fn d.args h m with
  | some (m',h') => evEnd cf rs s ds h' m'
  | none => none
def envOf : Nat → List Value → Env
 | _,[] => []
 | i,v :: r => (i,v) :: envOf (i + 1) r
def cfX (XD : FuncId → Option (List Value → H → Option Value → Option (Option Value × H))) : DCF := fun f args h m => match XD f with
 | some x => x args h m
 | none => none
def evFn (X : FuncId → Option (List Value → H → Res)) (cd : DCF) (tbl : FuncId → Option AFn) : Nat → CF
 | 0 => fun _ _ _ => none
 | F + 1 => fun f args h =>
  match X f with
  | some x => x args h
  | none => match tbl f with
   | none => none
   | some fn =>
    if args.length ≤ fn.ntmps then
     let kr : K := fun s h ds => evEnd cd fn.results s ds h none
     let cx : Cx := ⟨evFn X cd tbl F,fun v s h ds => evEnd cd fn.results s ds h (some (unpan v))⟩
     evC F cx fn.body kr (fun _ _ _ _ => none) kr (envOf 0 args) h []
    else none
def compRes (P : Program) : ResultVar → Option ARes
 | .tmp t => some (.tmp t)
 | .cell t ty => match isRowB P ty with
  | some false => some (.cell1 t)
  | some true => (szOf P ty).map fun m => .cellN t m
  | none => none
def compResL (P : Program) : List ResultVar → Option (List ARes)
 | [] => some []
 | x :: r => match compRes P x,compResL P r with
  | some v,some l => some (v :: l)
  | _,_ => none
def compFn (P : Program) (fn : Func) (ks : List (List Nat)) : Option AFn :=
 match fn.body with
 | some c => match compC P fn.ntmps c ks,compResL P fn.results.toList with
  | some (ac, _), some rs => if fn.name != "runtime.NumGoroutine" then some ⟨fn.ntmps, ac, rs⟩ else none
  | _,_ => none
 | none => none
def resOf (tmps : Array Value) : ResultVar → Sem Value
 | .tmp t => pure (tmps.getD t undef)
 | .cell a t => do loadVar t (← asAddr (tmps.getD a undef))
theorem res1_sound (r : Rel ρ h w) {tmps : Array Value} (he : EnvRel ρ n s tmps) {x : ResultVar} {y : ARes} (hc : compRes P x = some y) {v : Value} (e : evRes1 s h y = some v) :
  ∃ v',(resOf tmps x).run P w = .ok v' w ∧ VR ρ v v' := by
 cases x with
 | tmp t =>
  simp [compRes] at hc;subst hc
  simp [evRes1] at e;subst e
  exact ⟨_,by simp [resOf],he.2 t⟩
 | cell t ty =>
  simp only [compRes] at hc
  split at hc
  ·rename_i hb
   cases hc
   simp only [evRes1] at e
   split at e
   ·rename_i b o hx
    have hv := he.2 t
    rw [hx] at hv
    obtain ⟨i,hi,e1⟩ := hv.ptr_inv
    cases hl : rd h b o 1 with
    | none => rw [hl] at e;cases e
    | some l =>
     rw [hl] at e
     obtain ⟨g1,l',g2,g3⟩ := rd_rel r hi hl
     obtain ⟨u,rfl⟩ := single g1
     simp [one?] at e;subst e
     cases g2 with
     | cons hv' ht =>
      rename_i v' _
      have hcell := g3 0 v' (by simp)
      simp only [Nat.add_zero] at hcell
      refine ⟨v',?_,hv'⟩
      simp only [resOf,e1,asAddr,Sem.run_bind,Sem.run_pure,Result.andThen_ok,loadVar,run_isAgg (w := w) hb]
      simp [load,Sem.run,hcell]
   ·cases e
  ·rename_i hb
   obtain ⟨m,hm,hf⟩ := Option.map_eq_some_iff.1 hc
   cases hf
   simp only [evRes1] at e
   split at e
   ·rename_i b o hx
    have hv := he.2 t
    rw [hx] at hv
    obtain ⟨i,hi,e1⟩ := hv.ptr_inv
    obtain ⟨l,hl,hf⟩ := Option.map_eq_some_iff.1 e
    cases hf
    obtain ⟨g1,l',g2,g3⟩ := rd_rel r hi hl
    have hlen : l'.length = m := by rw [← g2.length];exact g1
    have hld : (loadCells ⟨i.blk,o + i.sh,none⟩ m).run P w = .ok l'.toArray w := by
     rw [← hlen];exact run_loadCells_list w _ l' (fun j v hv => by rw [Addr.add_mid];exact g3 j v hv)
    refine ⟨_,?_,.agg g2⟩
    simp only [resOf,e1,asAddr,Sem.run_bind,Sem.run_pure,Result.andThen_ok,loadVar,run_isAgg (w := w) hb,if_true,run_sizeOf' (w := w) hm,hld]
   ·cases e
  ·cases hc
theorem resL_sound (r : Rel ρ h w) {tmps : Array Value} (he : EnvRel ρ n s tmps) : ∀ {xs : List ResultVar} {ys : List ARes},compResL P xs = some ys → ∀ {l : List Value},evResL s h ys = some l →
  ∃ l',(xs.mapM (resOf tmps)).run P w = .ok l' w ∧ VRs ρ l l'
 | [],ys,hc,l,e => by
  simp [compResL] at hc;subst hc
  simp [evResL] at e;subst e
  exact ⟨[],by simp,.nil⟩
 | x :: xs,ys,hc,l,e => by
  unfold compResL at hc
  split at hc
  ·rename_i y ys' hy hys
   cases hc
   unfold evResL at e
   split at e
   ·rename_i v l' hv hl'
    cases e
    obtain ⟨v',g1,g2⟩ := res1_sound r he hy hv
    obtain ⟨l2,g3,g4⟩ := resL_sound r he hys hl'
    refine ⟨v' :: l2,?_,.cons g2 g4⟩
    rw [List.mapM_cons,Sem.run_bind,g1]
    simp only [Result.andThen_ok,Sem.run_bind,g3,Sem.run_pure]
   ·cases e
  ·cases hc
theorem results_sound (r : Rel ρ h w) {tmps : Array Value} (he : EnvRel ρ n s tmps) {fn : Func} {rs : List ARes} (hc : compResL P fn.results.toList = some rs) {l : List Value} (e : evResL s h rs = some l) :
  ∃ v',(results fn tmps).run P w = .ok v' w ∧ VR ρ (packRes l) v' := by
 obtain ⟨l',g1,g2⟩ := resL_sound r he hc e
 have hm : (fn.results.mapM (resOf tmps)).run P w = .ok ⟨l'⟩ w := by
  rw [Array.mapM_eq_mapM_toList]
  simp [g1]
 have hres : results fn tmps = (do
   let vs ← fn.results.mapM (resOf tmps)
   pure (if h : vs.size = 1 then vs[0] else .tuple vs)) := by
  unfold results
  congr
 refine ⟨packRes l',?_,?_⟩
 ·rw [hres,Sem.run_bind,hm]
  match l' with
  | [] => simp [packRes]
  | [v] => simp [packRes]
  | a :: b :: l => simp [packRes]
 ·cases g2 with
  | nil => exact .tuple .nil
  | cons h t =>
   cases t with
   | nil => exact h
   | cons h2 t2 => exact .tuple (.cons h (.cons h2 t2))
theorem envOf_get : ∀ (l : List Value) (i t : Nat),(envOf i l).get t = if i ≤ t ∧ t < i + l.length then l.getD (t - i) junk else junk
 | [],i,t => by
  simp only [envOf,Env.get,List.length_nil]
  rw [if_neg (by omega)]
 | v :: l,i,t => by
  simp only [envOf,Env.get,List.length_cons]
  by_cases hit : i = t
  ·subst hit;simp
  ·have hb : (i == t) = false := by simpa using hit
   rw [hb,cond_false,envOf_get l (i + 1) t]
   by_cases hc : i + 1 ≤ t ∧ t < i + 1 + l.length
   ·rw [if_pos hc,if_pos (by omega)]
    rw [show t - i = (t - (i + 1)) + 1 by omega]
    simp
   ·rw [if_neg hc,if_neg (by omega)]
theorem EnvRel.start {args args' : List Value} (hg : Glb ρ) (hv : VRs ρ args args') (hn : args.length ≤ n) : EnvRel ρ n (envOf 0 args) (⟨args'⟩ ++ Array.replicate (n - args'.length) undef : Array Value) := by
 have hl := hv.length
 refine ⟨by simp;omega,fun t => ?_,hg⟩
 rw [envOf_get]
 by_cases hc : 0 ≤ t ∧ t < 0 + args.length
 ·rw [if_pos hc]
  have ht : t < args.length := by omega
  obtain ⟨v',g1,g2⟩ := hv.get (i := t) (v := args[t]) (by simp [ht])
  have e1 : args.getD (t - 0) junk = args[t] := by simp [List.getD_eq_getElem?_getD,ht]
  have e2 : (⟨args'⟩ ++ Array.replicate (n - args'.length) undef : Array Value).getD t undef = v' := by
   rw [Array.getD_eq_getD_getElem?,Array.getElem?_append_left (by simp;omega)]
   simp [g1]
  rw [e1,e2];exact g2
 ·rw [if_neg hc];exact .junk _
theorem leaves_sound {cd : DCF} (hcd : CallDOk P cd) {fn : Func} {rs : List ARes} (hrs : compResL P fn.results.toList = some rs) {tmps : Array Value} {res : Value × H} {ρ0 : Ren} {h0 : H} {w0 : World} (r0 : Rel ρ0 h0 w0) :
  ∀ (ds : Ds) (l : List Deferred) (ρ : Ren) (h : H) (w : World) (m : Option Value) (u : FrameMode),Rel ρ h w → EnvRel ρ n s tmps → DsRel ρ ds l → Ext ρ0 h0 w0 ρ h w → MRel ρ m u → evEnd cd rs s ds h m = some res →
  Leaves P fn tmps (CallPost ρ0 h0 w0 res.1 res.2) l u w
 | [],l,ρ,h,w,none,u,r,he,hd,x,hu,e => by
  cases hd
  cases hu
  simp only [evEnd,evLast] at e
  split at e
  ·rename_i l hl
   cases hp : isPan (packRes l) with
   | true => rw [hp] at e;cases e
   | false =>
    rw [hp] at e
    cases e
    obtain ⟨v',g1,g2⟩ := results_sound r he hrs hl
    exact ⟨v',g1,.inl ⟨hp,v',ρ,rfl,g2,r,x⟩⟩
  ·cases e
 | [],l,ρ,h,w,some y,u,r,he,hd,x,hu,e => by
  cases hd
  cases hu with
  | some hv =>
   rename_i y'
   simp only [evEnd] at e
   cases e
   exact .inr ⟨y,y',ρ,rfl,rfl,hv,r,x⟩
 | d :: ds,l,ρ,h,w,m,u,r,he,hd,x,hu,e => by
  cases hd with
  | cons hv t =>
   rename_i cap' args' l
   simp only [evEnd] at e
   split at e
   ·rename_i m1 h1 hcall
    obtain ⟨hc1,hc2⟩ := hcd _ _ _ _ _ _ hcall
    refine leaves_cons (by rintro rfl;cases hu) (f := d.fn) (args := ⟨args' ++ cap'⟩) ?_ ?_
    ·simp only [invoke]
     rw [run_callFunc hc1]
     have harr : (⟨args'⟩ ++ ⟨cap'⟩ : Array Value) = ⟨args' ++ cap'⟩ := by apply Array.ext';simp
     rw [harr]
    ·refine (hc2 ρ w _ u r hv hu).mono ?_
     rintro e' u' w' ⟨v',ρ',rfl,g0,g2,g3⟩
     exact leaves_sound hcd hrs r0 ds l ρ' h1 w' m1 (settle u') g2 (he.mono g3.le) (t.mono g3.le) (Ext.trans r0 x g3) g0 e
   ·cases e
def TblOk (P : Program) (tbl : FuncId → Option AFn) : Prop := ∀ f af,tbl f = some af → ∃ fn ks,P.funcs[f]? = some fn ∧ compFn P fn ks = some af
def XOk (P : Program) (X : FuncId → Option (List Value → H → Res)) : Prop :=
 ∀ f x,X f = some x → CallOk P (fun g args h => if g = f then x args h else none)
theorem compFn_inv {fn : Func} {ks : List (List Nat)} {af : AFn} (hc : compFn P fn ks = some af) : ∃ c ac ks' rs, fn.body = some c ∧ compC P fn.ntmps c ks = some (ac, ks') ∧ compResL P fn.results.toList = some rs ∧ fn.name ≠ "runtime.NumGoroutine" ∧ af = ⟨fn.ntmps, ac, rs⟩ := by
 unfold compFn at hc
 split at hc
 ·rename_i c hb
  split at hc
  ·rename_i ac ks' rs h1 h2
   split at hc
   ·rename_i hname
    cases hc
    exact ⟨c,ac,ks',rs,hb,h1,h2,by simpa using hname,rfl⟩
   ·cases hc
  ·cases hc
 ·cases hc
theorem evFn_sound (hm : P.follows .mixedOrders = true) {X : FuncId → Option (List Value → H → Res)} {cd : DCF} {tbl : FuncId → Option AFn} (ht : TblOk P tbl) (hx : XOk P X) (hxd : CallDOk P cd) : ∀ F,CallOk P (evFn X cd tbl F) := by
 intro F
 induction F with
 | zero =>
  intro f args h r h' e
  cases e
 | succ F ih1 =>
  have main : ∀ f args h r h',(X f = none) → evFn X cd tbl (F + 1) f args h = some (r,h') → callable P f = true ∧ ∀ ρ w args',Rel ρ h w → VRs ρ args args' →
    ∃ fn c,P.funcs[f]? = some fn ∧ fn.body = some c ∧ c.wp P (fun ex a w' => match ex with
     | .normal | .ret => ∃ rs s ds ρ' h2,compResL P fn.results.toList = some rs ∧ Rel ρ' h2 w' ∧ EnvRel ρ' fn.ntmps s a.tmps ∧ DsRel ρ' ds a.defers ∧ Ext ρ h w ρ' h2 w' ∧ evEnd cd rs s ds h2 none = some (r,h')
     | .panic ch => ∃ rs s ds ρ' h2 x x',compResL P fn.results.toList = some rs ∧ Rel ρ' h2 w' ∧ EnvRel ρ' fn.ntmps s a.tmps ∧ DsRel ρ' ds a.defers ∧ Ext ρ h w ρ' h2 w' ∧ evEnd cd rs s ds h2 (some x) = some (r,h') ∧ ch = [{ v := x',recovered := false }] ∧ VR ρ' x x'
     | _ => False) { tmps := ⟨args'⟩ ++ Array.replicate (fn.ntmps - (⟨args'⟩ : Array Value).size) undef,defers := [] } w := by
   intro f args h r h' hX e
   simp only [evFn,hX] at e
   split at e
   ·cases e
   ·rename_i af haf
    obtain ⟨fn,ks,hf,hc⟩ := ht f af haf
    obtain ⟨c,ac,ks',rs,hb,h1,h2,h3,rfl⟩ := compFn_inv hc
    split at e
    ·rename_i hlen
     refine ⟨?_,?_⟩
     ·unfold callable
      rw [hf]
      simp [hb,h3]
     ·intro ρ w args' r0 hv
      refine ⟨fn,c,hf,hb,?_⟩
      refine wp_mono (evC_sound hm ih1 F (r,h') c ks ac ks' h1 _ _ _ ρ h { tmps := ⟨args'⟩ ++ Array.replicate (fn.ntmps - (⟨args'⟩ : Array Value).size) undef,defers := [] } w (envOf 0 args) [] r0 (EnvRel.start r0.glb hv hlen) .nil e) ?_
      intro ex a w' hq
      cases ex with
      | normal =>
       obtain ⟨ρ',s,h2',ds,g1,g2,g3,g4,g5⟩ := hq
       exact ⟨rs,s,ds,ρ',h2',h2,g1,g2,g3,g4,g5⟩
      | ret =>
       obtain ⟨ρ',s,h2',ds,g1,g2,g3,g4,g5⟩ := hq
       exact ⟨rs,s,ds,ρ',h2',h2,g1,g2,g3,g4,g5⟩
      | exit i =>
       obtain ⟨ρ',s,h2',ds,g1,g2,g3,g4,g5⟩ := hq
       cases g5
      | panic ch =>
       obtain ⟨ρ',s,h2',ds,x,x',g1,g2,g3,g4,g5,g6,g7⟩ := hq
       exact ⟨rs,s,ds,ρ',h2',x,x',h2,g1,g2,g3,g4,g5,g6,g7⟩
      | _ => exact hq
    ·cases e
  intro f args h r h' e
  cases hX : X f with
  | some x =>
   have := hx f x hX f args h r h'
   simp only [evFn,hX] at e
   simp only [if_true] at this
   exact this e
  | none =>
   obtain ⟨g1,g2⟩ := main f args h r h' hX e
   refine ⟨g1,fun ρ w args' r0 hv => ?_⟩
   obtain ⟨fn,c,hf,hb,hwp⟩ := g2 ρ w args' r0 hv
   refine calls_of_wp_defers hf hb (wp_mono hwp ?_)
   intro ex a w' hq
   cases ex with
   | normal =>
    obtain ⟨rs,s,ds,ρ',h2,q1,q2,q3,q4,q5,q6⟩ := hq
    exact leaves_sound hxd q1 r0 ds a.defers ρ' h2 w' none .returning q2 q3 q4 q5 .none q6
   | ret =>
    obtain ⟨rs,s,ds,ρ',h2,q1,q2,q3,q4,q5,q6⟩ := hq
    exact leaves_sound hxd q1 r0 ds a.defers ρ' h2 w' none .returning q2 q3 q4 q5 .none q6
   | panic ch =>
    obtain ⟨rs,s,ds,ρ',h2,x,x',q1,q2,q3,q4,q5,q6,rfl,q7⟩ := hq
    exact leaves_sound hxd q1 r0 ds a.defers ρ' h2 w' (some x) _ q2 q3 q4 q5 (.some q7) q6
   | _ => exact hq.elim
end Go.Ev
