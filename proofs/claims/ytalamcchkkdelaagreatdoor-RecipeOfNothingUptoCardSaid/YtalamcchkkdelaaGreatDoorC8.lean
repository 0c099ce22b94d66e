/- Texts of the proofs over heraldlaw20, put together by a program (merge20.py): Ev17 Ev18 Ev19 Cs0. -/
import Derived.Test.YtalamcchkkdelaaGreatDoorC7
import Derived.IntWalk
set_option linter.unusedVariables false
set_option linter.unusedSimpArgs false
namespace Go.Ev
def Ans (x : Res) (Q : Value → H → Prop) : Prop := ∃ v h,x = some (v,h) ∧ Q v h
theorem Ans.of {v : Value} {h : H} {Q : Value → H → Prop} (hq : Q v h) : Ans (some (v,h)) Q := ⟨v,h,rfl,hq⟩
theorem Ans.mono {x : Res} {Q R : Value → H → Prop} (e : Ans x Q) (hq : ∀ v h,Q v h → R v h) : Ans x R := by
 obtain ⟨v,h,e,q⟩ := e;exact ⟨v,h,e,hq v h q⟩
theorem Ans.eq {x : Res} {Q : Value → H → Prop} (e : Ans x Q) {v : Value} {h : H} (e' : x = some (v,h)) : Q v h := by
 obtain ⟨v',h',e,q⟩ := e;rw [e'] at e;cases e;exact q
theorem nr {α : Sort _} {a b : α} (h : a = b) : a = b := h
def callV (cf : CF) (v : Value) (args : List Value) (h : H) : Option (Value × H) := match v with
 | .func (.func g) ⟨first⟩ ⟨cap⟩ => cf g (first ++ args ++ cap) h
 | _ => none
@[simp] theorem callV_func (cf : CF) (g : FuncId) (args : List Value) (h : H) : callV cf (.func (.func g) #[] #[]) args h = cf g args h := by
 show cf g ([] ++ args ++ []) h = _
 simp
def callI (cf : CF) (tb : List (TypeId × FuncId)) (v : Value) (args : List Value) (h : H) : Option (Value × H) := match v with
 | .iface t u => match tb.find? (fun q => q.1 == t) with
  | some q => cf q.2 (u :: args) h
  | none => none
 | _ => none
theorem callI_at {cf : CF} {tb : List (TypeId × FuncId)} {t : TypeId} {u : Value} {args : List Value} {h : H} {g : FuncId} (e : tb.find? (fun q => q.1 == t) = some (t,g)) : callI cf tb (.iface t u) args h = cf g (u :: args) h := by
 simp [callI,e]
variable {cx : Cx} {cf : CF} {F F0 : Nat} {s : Env} {h : H} {k : Env → H → Res} {kn kr : K} {ke : Nat → K} {ds : Ds} {keep live : List Nat} {d : Option Nat} {os : List AOper} {v : Value}
def evR (cx : Cx) (ops : List AOper) (s : Env) (h : H) (kn : K) (keep : List Nat) (ds : Ds) : Res := evOps cx ops s h ds fun s' h' => kn (s'.keep keep) h' ds
def nextR (x : Option (Value × H)) (cx : Cx) (d : Option Nat) (os : List AOper) (s : Env) (kn : K) (keep : List Nat) (ds : Ds) : Res := match x with
 | some (v,h') => evR cx os (setD s d v) h' kn keep ds
 | none => none
def nextC (x : Option (Value × H)) (cx : Cx) (d : Option Nat) (os : List AOper) (s : Env) (kn : K) (keep : List Nat) (ds : Ds) : Res := match x with
 | some (v,h') => bif isPan v then cx.p v s h' ds else evR cx os (setD s d v) h' kn keep ds
 | none => none
def guardR (v : Value) (b : Bool) (ac : AAct) (cx : Cx) (d : Option Nat) (os : List AOper) (s : Env) (h : H) (kn : K) (keep : List Nat) (ds : Ds) : Res := match v with
 | .bool c => bif c == b then evR cx (⟨d,none,ac⟩ :: os) s h kn keep ds else evR cx os (setD s d unset) h kn keep ds
 | .tuple ⟨[]⟩ => evR cx os (setD s d unset) h kn keep ds
 | _ => none
def condC (v : Value) (F : Nat) (cx : Cx) (a b : ACode) (kn : K) (ke : Nat → K) (kr : K) (s : Env) (h : H) (ds : Ds) : Res := match v with
 | .bool true => evC F cx a kn ke kr s h ds
 | .bool false => evC F cx b kn ke kr s h ds
 | _ => none
def putK (i : Nat) (kn : K) (ke : Nat → K) : Nat → K := fun j => if j = i then kn else ke j
def noK : Nat → K := fun _ _ _ _ => none
def endK (cd : DCF) (rs : List ARes) : K := fun s h ds => evEnd cd rs s ds h none
def cxOf (cf : CF) (cd : DCF) (rs : List ARes) : Cx := ⟨cf,fun v s h ds => evEnd cd rs s ds h (some (unpan v))⟩
def keepK (live : List Nat) (k : K) : K := fun s h ds => k (s.keep live) h ds
def loopK (F0 : Nat) (cx : Cx) (live : List Nat) (c : ACode) (ke : Nat → K) (kr : K) : Nat → K := evLoop fun again => evC F0 cx c (keepK live again) ke kr
@[simp] theorem isPan_pv (x : Value) : isPan (pv x) = true := nr rfl
@[simp] theorem unpan_pv (x : Value) : unpan (pv x) = x := nr rfl
section
variable (b : Bool) (K : IntKind) (z : Int) (t : ByteArray) (p : Option Addr) (l c : Nat) (a : Array Value) (m : Option Nat) (g : Fn) (a2 : Array Value) (ty : TypeId) (v : Value)
@[simp] theorem isPan_bool : isPan (.bool b) = false := nr rfl
@[simp] theorem isPan_int : isPan (.int K z) = false := nr rfl
@[simp] theorem isPan_string : isPan (.string t) = false := nr rfl
@[simp] theorem isPan_pointer : isPan (.pointer p) = false := nr rfl
@[simp] theorem isPan_slice : isPan (.slice p l c) = false := nr rfl
@[simp] theorem isPan_agg : isPan (.agg a) = false := nr rfl
@[simp] theorem isPan_map : isPan (.map m) = false := nr rfl
@[simp] theorem isPan_func : isPan (.func g a a2) = false := nr rfl
@[simp] theorem isPan_nilFunc : isPan .nilFunc = false := nr rfl
@[simp] theorem isPan_nilIface : isPan .nilIface = false := nr rfl
@[simp] theorem isPan_iface : isPan (.iface ty v) = false := nr rfl
@[simp] theorem isPan_t0 : isPan (.tuple ⟨[]⟩) = false := nr rfl
@[simp] theorem isPan_t1 (x : Value) : isPan (.tuple ⟨[x]⟩) = false := by unfold isPan;split <;> simp_all
@[simp] theorem isPan_t2 (x y : Value) : isPan (.tuple ⟨[x,y]⟩) = false := by unfold isPan;split <;> simp_all
@[simp] theorem isPan_t4 (x y z w : Value) (l : List Value) : isPan (.tuple ⟨x :: y :: z :: w :: l⟩) = false := by unfold isPan;split <;> simp_all
@[simp] theorem isPan_tb (x y : Value) : isPan (.tuple ⟨[.bool b,x,y]⟩) = false := nr rfl
@[simp] theorem isPan_ti (x y : Value) : isPan (.tuple ⟨[.int K z,x,y]⟩) = false := nr rfl
@[simp] theorem isPan_ts (x y : Value) : isPan (.tuple ⟨[.string t,x,y]⟩) = false := nr rfl
@[simp] theorem isPan_tp (x y : Value) : isPan (.tuple ⟨[.pointer p,x,y]⟩) = false := nr rfl
@[simp] theorem isPan_tl (x y : Value) : isPan (.tuple ⟨[.slice p l c,x,y]⟩) = false := nr rfl
@[simp] theorem isPan_ta (x y : Value) : isPan (.tuple ⟨[.agg a,x,y]⟩) = false := nr rfl
end
@[simp] theorem nextR_some {h' : H} : nextR (some (v,h')) cx d os s kn keep ds = evR cx os (setD s d v) h' kn keep ds := nr rfl
@[simp] theorem nextC_some {h' : H} : nextC (some (v,h')) cx d os s kn keep ds = bif isPan v then cx.p v s h' ds else evR cx os (setD s d v) h' kn keep ds := nr rfl
@[simp] theorem cxOf_c {cd : DCF} {rs : List ARes} : (cxOf cf cd rs).c = cf := nr rfl
@[simp] theorem cxOf_p {cd : DCF} {rs : List ARes} : (cxOf cf cd rs).p v s h ds = evEnd cd rs s ds h (some (unpan v)) := nr rfl
theorem Ans.next {x : Option (Value × H)} {Q R : Value → H → Prop} (e : Ans x Q) (hk : ∀ v h,Q v h → Ans (bif isPan v then cx.p v s h ds else evR cx os (setD s d v) h kn keep ds) R) : Ans (nextC x cx d os s kn keep ds) R := by
 obtain ⟨v,h,rfl,q⟩ := e;exact hk v h q
@[simp] theorem guardR_tt {ac : AAct} : guardR (.bool true) true ac cx d os s h kn keep ds = evR cx (⟨d,none,ac⟩ :: os) s h kn keep ds := nr rfl
@[simp] theorem guardR_ff {ac : AAct} : guardR (.bool false) false ac cx d os s h kn keep ds = evR cx (⟨d,none,ac⟩ :: os) s h kn keep ds := nr rfl
@[simp] theorem guardR_tf {ac : AAct} : guardR (.bool true) false ac cx d os s h kn keep ds = evR cx os (setD s d unset) h kn keep ds := nr rfl
@[simp] theorem guardR_ft {ac : AAct} : guardR (.bool false) true ac cx d os s h kn keep ds = evR cx os (setD s d unset) h kn keep ds := nr rfl
@[simp] theorem guardR_un {b : Bool} {ac : AAct} : guardR unset b ac cx d os s h kn keep ds = evR cx os (setD s d unset) h kn keep ds := nr rfl
@[simp] theorem condC_true {a b : ACode} : condC (.bool true) F cx a b kn ke kr s h ds = evC F cx a kn ke kr s h ds := nr rfl
@[simp] theorem condC_false {a b : ACode} : condC (.bool false) F cx a b kn ke kr s h ds = evC F cx b kn ke kr s h ds := nr rfl
@[simp] theorem putK_app {i j : Nat} : putK i kn ke j s h ds = if j = i then kn s h ds else ke j s h ds := by unfold putK;split <;> rfl
@[simp] theorem endK_nil {cd : DCF} {rs : List ARes} : endK cd rs s h [] = match evResL s h rs with
  | some l => bif isPan (packRes l) then none else some (packRes l,h)
  | none => none := nr rfl
@[simp] theorem endK_cons {cd : DCF} {rs : List ARes} {x : ADef} : endK cd rs s h (x :: ds) = match cd x.fn x.args h none with
  | some (m,h') => evEnd cd rs s ds h' m
  | none => none := nr rfl
@[simp] theorem evEnd_pan {cd : DCF} {rs : List ARes} {x : Value} : evEnd cd rs s [] h (some x) = some (pv x,h) := nr rfl
@[simp] theorem evEnd_nil {cd : DCF} {rs : List ARes} : evEnd cd rs s [] h none = match evResL s h rs with
  | some l => bif isPan (packRes l) then none else some (packRes l,h)
  | none => none := nr rfl
@[simp] theorem evEnd_cons {cd : DCF} {rs : List ARes} {x : ADef} {m : Option Value} : evEnd cd rs s (x :: ds) h m = match cd x.fn x.args h m with
  | some (m',h') => evEnd cd rs s ds h' m'
  | none => none := nr rfl
@[simp] theorem keepK_app : keepK live kn s h ds = kn (s.keep live) h ds := nr rfl
theorem loopK_succ {c : ACode} {n : Nat} : loopK F0 cx live c ke kr (n + 1) s h ds = evC F0 cx c (keepK live (loopK F0 cx live c ke kr n)) ke kr s h ds := nr rfl
@[simp] theorem evR_nil : evR cx [] s h kn keep ds = kn (s.keep keep) h ds := nr rfl
@[simp] theorem evR_op {o : AOp} : evR cx (⟨d,none,.op o⟩ :: os) s h kn keep ds = nextR (evOp o s h) cx d os s kn keep ds := by
 simp only [evR,evOps,evOper,evAct,nextR,panAct,cond_false]
 cases evOp o s h <;> rfl
@[simp] theorem evR_call {f : Operand} {args : List Operand} : evR cx (⟨d,none,.call f args⟩ :: os) s h kn keep ds = nextC (callV cx.c (aeval s f) (args.map (aeval s)) h) cx d os s kn keep ds := by
 simp only [evR,evOps,evOper,evAct,nextC,callV,panAct]
 split <;> rename_i hf <;> split at hf <;> simp_all
@[simp] theorem evR_invoke {tb : List (TypeId × FuncId)} {f : Operand} {args : List Operand} : evR cx (⟨d,none,.invoke tb f args⟩ :: os) s h kn keep ds = nextC (callI cx.c tb (aeval s f) (args.map (aeval s)) h) cx d os s kn keep ds := by
 have e : evAct cx.c (.invoke tb f args) s h = callI cx.c tb (aeval s f) (args.map (aeval s)) h := by
  simp only [evAct,callI]
  cases aeval s f <;> rfl
 rw [← e]
 simp only [evR,evOps,evOper,nextC,panAct]
 cases evAct cx.c (.invoke tb f args) s h <;> rfl
@[simp] theorem evR_panic {x : Operand} : evR cx (⟨d,none,.panic x⟩ :: os) s h kn keep ds = match aeval s x with
  | .iface t v => cx.p (pv (.iface t v)) s h ds
  | _ => none := by
 simp only [evR,evOps,evOper,evAct,panAct]
 generalize aeval s x = u
 cases u <;> first
  | rfl
  | (simp only [isPan_pv,cond_true])
@[simp] theorem evR_guard {t : Nat} {b : Bool} {ac : AAct} : evR cx (⟨d,some (t,b),ac⟩ :: os) s h kn keep ds = guardR (s.get t) b ac cx d os s h kn keep ds := by
 simp only [evR,evOps,evOper,guardR]
 generalize s.get t = u
 cases u with
 | bool c => cases evAct cx.c ac s h <;> rfl
 | tuple vs =>
  obtain ⟨l⟩ := vs
  cases l <;> rfl
 | _ => rfl
@[simp] theorem evC_skip : evC F cx .skip kn ke kr s h ds = kn s h ds := nr rfl
@[simp] theorem evC_region {ops : List AOper} : evC F cx (.region ops keep) kn ke kr s h ds = evR cx ops s h kn keep ds := nr rfl
@[simp] theorem evC_seq {a b : ACode} : evC F cx (.seq a b) kn ke kr s h ds = evC F cx a (evC F cx b kn ke kr) ke kr s h ds := nr rfl
@[simp] theorem evC_cond {c : Operand} {a b : ACode} : evC F cx (.cond c a b) kn ke kr s h ds = condC (aeval s c) F cx a b kn ke kr s h ds := nr rfl
@[simp] theorem evC_block {i : Nat} {c : ACode} : evC F cx (.block i c) kn ke kr s h ds = evC F cx c kn (putK i kn ke) kr s h ds := nr rfl
@[simp] theorem evC_loop {c : ACode} : evC F cx (.loop live c) kn ke kr s h ds = loopK F cx live c ke kr F (s.keep live) h ds := nr rfl
@[simp] theorem evC_exit {i : Nat} : evC F cx (.exit i) kn ke kr s h ds = ke i s h ds := nr rfl
@[simp] theorem evC_ret : evC F cx .ret kn ke kr s h ds = kr s h ds := nr rfl
@[simp] theorem get_nil (t : Nat) : Env.get [] t = junk := nr rfl
@[simp] theorem get_cons (i t : Nat) (v : Value) (r : Env) : Env.get ((i,v) :: r) t = bif i == t then v else Env.get r t := nr rfl
@[simp] theorem keep_nil (s : Env) : Env.keep s [] = [] := nr rfl
@[simp] theorem keep_cons (s : Env) (t : Nat) (ts : List Nat) : Env.keep s (t :: ts) = (t,s.get t) :: Env.keep s ts := nr rfl
@[simp] theorem setD_some (s : Env) (d : Nat) (v : Value) : setD s (some d) v = (d,v) :: s := nr rfl
@[simp] theorem setD_none (s : Env) (v : Value) : setD s none v = s := nr rfl
def uxor (k : IntKind) (a b : Int) : Int := k.wrap (BitVec.ofInt k.bits a ^^^ BitVec.ofInt k.bits b).toNat
section
variable (K : IntKind) (x y : Int)
@[simp] theorem intBin_add : intBin .add K x y = some (.int K (K.wrap (x + y))) := nr rfl
@[simp] theorem intBin_sub : intBin .sub K x y = some (.int K (K.wrap (x - y))) := nr rfl
@[simp] theorem intBin_mul : intBin .mul K x y = some (.int K (K.wrap (x * y))) := nr rfl
@[simp] theorem intBin_quo : intBin .quo K x y = if y = 0 then none else some (.int K (K.wrap (x.tdiv y))) := nr rfl
@[simp] theorem intBin_rem : intBin .rem K x y = if y = 0 then none else some (.int K (x.tmod y)) := nr rfl
@[simp] theorem intBin_xor : intBin .xor K x y = some (.int K (uxor K x y)) := nr rfl
@[simp] theorem intBin_eql : intBin .eql K x y = some (.bool (x == y)) := nr rfl
@[simp] theorem intBin_neq : intBin .neq K x y = some (.bool (x != y)) := nr rfl
@[simp] theorem intBin_lss : intBin .lss K x y = some (.bool (decide (x < y))) := nr rfl
@[simp] theorem intBin_leq : intBin .leq K x y = some (.bool (decide (x ≤ y))) := nr rfl
@[simp] theorem intBin_gtr : intBin .gtr K x y = some (.bool (decide (x > y))) := nr rfl
@[simp] theorem intBin_geq : intBin .geq K x y = some (.bool (decide (x ≥ y))) := nr rfl
end
theorem uxor_u8 (a b : Int) : 0 ≤ uxor .u8 a b ∧ uxor .u8 a b < 256 := by
 unfold uxor
 rw [IntKind.wrap_u8]
 omega
attribute [simp] aBin strBin aUn nilEq rd wr entriesOf partsOf fillL optInt cellsEq cellEq findM keyEq isKey
attribute [simp] aeval konst envOf evResL evRes1 packRes evOp one? oneCell vcells isText isKey
def goD (cf : CF) : List DOp → Env → H → (List TR → Env → H → Option Value → Res) → Res
 | [],s,h,k => k [] s h none
 | d :: l,s,h,k => match wantedA d.o.guard (s.keep d.slots) with
  | none => none
  | some false => goD cf l (setD s d.o.dst unset) h fun ts s2 h2 x => k (⟨s.keep d.slots,h,false,unset⟩ :: ts) s2 h2 x
  | some true => match evAct cf d.o.act (s.keep d.slots) h with
   | some (v,h1) => bif panAct d.o.act v then (bif d.pan then k (⟨s.keep d.slots,h,true,v⟩ :: blanks h1 l) s h1 (some v) else none)
    else goD cf l (setD s d.o.dst v) h1 fun ts s2 h2 x => k (⟨s.keep d.slots,h,true,v⟩ :: ts) s2 h2 x
   | none => none
theorem goD_eq : ∀ (ops : List DOp) (s : Env) (h : H) (k : List TR → Env → H → Option Value → Res),goD cf ops s h k = match trace cf ops s h with
  | some (ts,s1,h1,x) => k ts s1 h1 x
  | none => none
 | [],s,h,k => rfl
 | d :: l,s,h,k => by
  unfold goD trace
  cases wantedA d.o.guard (s.keep d.slots) with
  | none => rfl
  | some c =>
   cases c with
   | false =>
    simp only [goD_eq l]
    cases trace cf l (setD s d.o.dst unset) h with
    | none => rfl
    | some q => rfl
   | true =>
    simp only
    cases evAct cf d.o.act (s.keep d.slots) h with
    | none => rfl
    | some p =>
     obtain ⟨v,h1⟩ := p
     simp only [goD_eq l]
     cases panAct d.o.act v with
     | true => cases d.pan <;> rfl
     | false =>
      simp only [cond_false]
      cases trace cf l (setD s d.o.dst v) h1 with
      | none => rfl
      | some q => rfl
structure DK where
 ops : List DOp
 wins : List (Nat × List Nat)
 keep : List Nat
 kn : K
 ds : Ds
def DK.go (cx : Cx) (q : DK) (ts : List TR) (s : Env) (h : H) : Res := if chks cx.c q.ops ts h q.wins = true then q.kn (s.keep q.keep) h q.ds else none
def DK.pan (cx : Cx) (q : DK) (ts : List TR) (s0 : Env) (h : H) (v : Value) : Res := if chks cx.c q.ops ts h q.wins = true then cx.p v (rest s0 q.ops) h q.ds else none
def DK.end (cx : Cx) (q : DK) (s0 : Env) (ts : List TR) (s : Env) (h : H) : Option Value → Res
 | none => q.go cx ts s h
 | some v => q.pan cx ts s0 h v
def evD (cx : Cx) (l : List DOp) (ts : List TR) (s : Env) (h : H) (q : DK) (s0 : Env) : Res := goD cx.c l s h fun ts' s' h' x => q.end cx s0 (ts ++ ts') s' h' x
def nextD (x : Option (Value × H)) (cx : Cx) (d : Option Nat) (l : List DOp) (ts : List TR) (e s : Env) (h : H) (q : DK) (s0 : Env) : Res := match x with
 | some (v,h') => evD cx l (ts ++ [⟨e,h,true,v⟩]) (setD s d v) h' q s0
 | none => none
def nextCD (x : Option (Value × H)) (pn : Bool) (cx : Cx) (d : Option Nat) (l : List DOp) (ts : List TR) (e s : Env) (h : H) (q : DK) (s0 : Env) : Res := match x with
 | some (v,h') => bif isPan v then (bif pn then q.pan cx (ts ++ ⟨e,h,true,v⟩ :: blanks h' l) s0 h' v else none) else evD cx l (ts ++ [⟨e,h,true,v⟩]) (setD s d v) h' q s0
 | none => none
def guardD (v : Value) (b : Bool) (i : Nat) (sl : List Nat) (pn : Bool) (ac : AAct) (cx : Cx) (d : Option Nat) (l : List DOp) (ts : List TR) (e s : Env) (h : H) (q : DK) (s0 : Env) : Res := match v with
 | .bool c => bif c == b then evD cx (⟨i,⟨d,none,ac⟩,sl,pn⟩ :: l) ts s h q s0 else evD cx l (ts ++ [⟨e,h,false,unset⟩]) (setD s d unset) h q s0
 | .tuple ⟨[]⟩ => evD cx l (ts ++ [⟨e,h,false,unset⟩]) (setD s d unset) h q s0
 | _ => none
variable {l : List DOp} {ts : List TR} {e s0 : Env} {q : DK}
@[simp] theorem evC_regionD {ops : List DOp} {wins : List (Nat × List Nat)} : evC F cx (.regionD ops wins keep) kn ke kr s h ds = evD cx ops [] s h ⟨ops,wins,keep,kn,ds⟩ s := by
 show evRegionD cx ops wins s h ds _ = _
 unfold evD
 rw [goD_eq]
 unfold evRegionD
 cases trace cx.c ops s h with
 | none => rfl
 | some z =>
  obtain ⟨ts,s1,h1,x⟩ := z
  cases x with
  | none => simp only [DK.end,DK.go,List.nil_append]
  | some v => simp only [DK.end,DK.pan,List.nil_append]
@[simp] theorem evD_nil : evD cx [] ts s h q s0 = q.go cx ts s h := by simp [evD,goD,DK.end]
@[simp] theorem evD_op {i : Nat} {o : AOp} {sl : List Nat} {pn : Bool} : evD cx (⟨i,⟨d,none,.op o⟩,sl,pn⟩ :: l) ts s h q s0 = nextD (evOp o (s.keep sl) h) cx d l ts (s.keep sl) s h q s0 := by
 simp only [evD,goD,wantedA,evAct,nextD,panAct,cond_false]
 cases evOp o (s.keep sl) h with
 | none => rfl
 | some p => simp [List.append_assoc]
@[simp] theorem evD_call {i : Nat} {f : Operand} {args : List Operand} {sl : List Nat} {pn : Bool} : evD cx (⟨i,⟨d,none,.call f args⟩,sl,pn⟩ :: l) ts s h q s0 = nextCD (callV cx.c (aeval (s.keep sl) f) (args.map (aeval (s.keep sl))) h) pn cx d l ts (s.keep sl) s h q s0 := by
 have e : evAct cx.c (.call f args) (s.keep sl) h = callV cx.c (aeval (s.keep sl) f) (args.map (aeval (s.keep sl))) h := by
  simp only [evAct,callV]
  split <;> (rename_i hf;split <;> simp_all)
 rw [← e]
 simp only [evD,goD,wantedA,nextCD,panAct]
 cases evAct cx.c (.call f args) (s.keep sl) h with
 | none => rfl
 | some p =>
  simp only []
  cases isPan p.1 with
  | false => simp [List.append_assoc]
  | true => cases pn <;> simp [DK.end]
@[simp] theorem evD_guard {i t : Nat} {b : Bool} {ac : AAct} {sl : List Nat} {pn : Bool} : evD cx (⟨i,⟨d,some (t,b),ac⟩,sl,pn⟩ :: l) ts s h q s0 = guardD ((s.keep sl).get t) b i sl pn ac cx d l ts (s.keep sl) s h q s0 := by
 simp only [evD,goD,wantedA,guardD]
 generalize (s.keep sl).get t = u
 cases u with
 | bool c =>
  cases hcb : c == b with
  | true => simp only [hcb,cond_true]
  | false => simp [hcb,List.append_assoc]
 | tuple vs =>
  obtain ⟨l'⟩ := vs
  cases l' with
  | nil => simp [List.append_assoc]
  | cons _ _ => rfl
 | _ => rfl
@[simp] theorem nextD_some {h' : H} : nextD (some (v,h')) cx d l ts e s h q s0 = evD cx l (ts ++ [⟨e,h,true,v⟩]) (setD s d v) h' q s0 := nr rfl
@[simp] theorem nextCD_some {h' : H} {pn : Bool} : nextCD (some (v,h')) pn cx d l ts e s h q s0 = bif isPan v then (bif pn then q.pan cx (ts ++ ⟨e,h,true,v⟩ :: blanks h' l) s0 h' v else none) else evD cx l (ts ++ [⟨e,h,true,v⟩]) (setD s d v) h' q s0 := nr rfl
section
variable {i : Nat} {sl : List Nat} {pn : Bool} {ac : AAct}
@[simp] theorem guardD_tt : guardD (.bool true) true i sl pn ac cx d l ts e s h q s0 = evD cx (⟨i,⟨d,none,ac⟩,sl,pn⟩ :: l) ts s h q s0 := nr rfl
@[simp] theorem guardD_ff : guardD (.bool false) false i sl pn ac cx d l ts e s h q s0 = evD cx (⟨i,⟨d,none,ac⟩,sl,pn⟩ :: l) ts s h q s0 := nr rfl
@[simp] theorem guardD_tf : guardD (.bool true) false i sl pn ac cx d l ts e s h q s0 = evD cx l (ts ++ [⟨e,h,false,unset⟩]) (setD s d unset) h q s0 := nr rfl
@[simp] theorem guardD_ft : guardD (.bool false) true i sl pn ac cx d l ts e s h q s0 = evD cx l (ts ++ [⟨e,h,false,unset⟩]) (setD s d unset) h q s0 := nr rfl
@[simp] theorem guardD_un {b : Bool} : guardD unset b i sl pn ac cx d l ts e s h q s0 = evD cx l (ts ++ [⟨e,h,false,unset⟩]) (setD s d unset) h q s0 := nr rfl
end
theorem Ans.nextCD {x : Option (Value × H)} {Q R : Value → H → Prop} {pn : Bool} (a : Ans x Q) (hk : ∀ v h',Q v h' → Ans (bif isPan v then (bif pn then q.pan cx (ts ++ ⟨e,h,true,v⟩ :: blanks h' l) s0 h' v else none) else evD cx l (ts ++ [⟨e,h,true,v⟩]) (setD s d v) h' q s0) R) : Ans (nextCD x pn cx d l ts e s h q s0) R := by
 obtain ⟨v,h,rfl,q⟩ := a;exact hk v h q
@[simp] theorem evAct_op {o : AOp} : evAct cf (.op o) s h = evOp o s h := nr rfl
@[simp] theorem go_none {ops : List DOp} : DK.go cx ⟨ops,[],keep,kn,ds⟩ ts s h = kn (s.keep keep) h ds := by simp [DK.go,chks]
@[simp] theorem pan_none {ops : List DOp} : DK.pan cx ⟨ops,[],keep,kn,ds⟩ ts s0 h v = cx.p v (rest s0 ops) h ds := by simp [DK.pan,chks]
def slen (t : ByteArray) : Nat := t.size
@[simp high] theorem slen_eq (t : ByteArray) : t.size = slen t := rfl
@[simp] theorem bytesOf_len (t : ByteArray) : (bytesOf t).length = slen t := by
 simp only [bytesOf,List.length_map,Array.length_toList];rfl
def hget (h : H) (b : Nat) : Option Blk := h[b]?
@[simp high] theorem hget_eq (h : H) (b : Nat) : h[b]? = hget h b := rfl
@[simp] theorem kill_nil (h : H) : kill h [] = h := rfl
@[simp] theorem newRow_size {h : H} {cs : List Value} {es : Nat} {an : List Nat} : (newRow h cs es an).size = h.size + 1 := by simp [newRow]
@[simp] theorem newRow_old {h : H} {cs : List Value} {es b : Nat} {an : List Nat} (hb : b < h.size) : hget (newRow h cs es an) b = hget h b := by
 show (h.push _)[b]? = h[b]?
 rw [Array.getElem?_push,if_neg (Nat.ne_of_lt hb)]
@[simp] theorem newRow_new {h : H} {cs : List Value} {es b : Nat} {an : List Nat} (hb : b = h.size) : hget (newRow h cs es an) b = some (.cells cs es true an) := by
 show (h.push _)[b]? = _
 rw [hb,Array.getElem?_push,if_pos rfl]
@[simp] theorem push_old {h : H} {b : Nat} {x : Blk} (hb : b < h.size) : hget (h.push x) b = hget h b := by
 show (h.push _)[b]? = h[b]?
 rw [Array.getElem?_push,if_neg (Nat.ne_of_lt hb)]
@[simp] theorem push_new {h : H} {b : Nat} {x : Blk} (hb : b = h.size) : hget (h.push x) b = some x := by
 show (h.push _)[b]? = _
 rw [hb,Array.getElem?_push,if_pos rfl]
@[simp] theorem set_self {h : H} {b c : Nat} {x : Blk} (hb : c = b) (hc : b < h.size) : hget (h.setIfInBounds b x) c = some x := by
 show (h.setIfInBounds b x)[c]? = _
 subst hb;rw [Array.getElem?_setIfInBounds_self_of_lt hc]
@[simp] theorem set_other {h : H} {b c : Nat} {x : Blk} (hb : ¬ b = c) : hget (h.setIfInBounds b x) c = hget h c := Array.getElem?_setIfInBounds_ne hb
@[simp] theorem add_1 (n : Nat) : n + 1 + 1 = n + 2 := rfl
@[simp] theorem add_2 (n : Nat) : n + 2 + 1 = n + 3 := rfl
@[simp] theorem add_3 (n : Nat) : n + 3 + 1 = n + 4 := rfl
@[simp] theorem add_4 (n : Nat) : n + 4 + 1 = n + 5 := rfl
@[simp] theorem add_5 (n : Nat) : n + 5 + 1 = n + 6 := rfl
@[simp] theorem add_6 (n : Nat) : n + 6 + 1 = n + 7 := rfl
@[simp] theorem add_7 (n : Nat) : n + 7 + 1 = n + 8 := rfl
@[simp] theorem add_8 (n : Nat) : n + 8 + 1 = n + 9 := rfl
@[simp] theorem add_9 (n : Nat) : n + 9 + 1 = n + 10 := rfl
@[simp] theorem add_10 (n : Nat) : n + 10 + 1 = n + 11 := rfl
@[simp] theorem add_11 (n : Nat) : n + 11 + 1 = n + 12 := rfl
@[simp] theorem add_12 (n : Nat) : n + 12 + 1 = n + 13 := rfl
@[simp] theorem add_13 (n : Nat) : n + 13 + 1 = n + 14 := rfl
@[simp] theorem add_14 (n : Nat) : n + 14 + 1 = n + 15 := rfl
@[simp] theorem add_15 (n : Nat) : n + 15 + 1 = n + 16 := rfl
@[simp] theorem add_16 (n : Nat) : n + 16 + 1 = n + 17 := rfl
@[simp] theorem add_17 (n : Nat) : n + 17 + 1 = n + 18 := rfl
@[simp] theorem add_18 (n : Nat) : n + 18 + 1 = n + 19 := rfl
@[simp] theorem add_19 (n : Nat) : n + 19 + 1 = n + 20 := rfl
@[simp] theorem add_20 (n : Nat) : n + 20 + 1 = n + 21 := rfl
@[simp] theorem add_21 (n : Nat) : n + 21 + 1 = n + 22 := rfl
@[simp] theorem add_22 (n : Nat) : n + 22 + 1 = n + 23 := rfl
@[simp] theorem add_23 (n : Nat) : n + 23 + 1 = n + 24 := rfl
@[simp] theorem add_24 (n : Nat) : n + 24 + 1 = n + 25 := rfl
@[simp] theorem lt_self_add (n k : Nat) : n < n + k ↔ 0 < k := by omega
@[simp] theorem self_ne_add (n k : Nat) : n = n + k ↔ k = 0 := by omega
@[simp] theorem add_ne_self (n k : Nat) : n + k = n ↔ k = 0 := by omega
@[simp] theorem lt_far' {a n k : Nat} (h : a < n) : (a < n + k) = True := by simp;omega
theorem lt_far {a n k : Nat} (h : a < n) : a < n + k := Nat.lt_of_lt_of_le h (Nat.le_add_right _ _)
theorem ne_far {a n k : Nat} (h : a < n) : ¬ a = n + k := fun e => by omega
theorem ne_far' {a n k : Nat} (h : a < n) : ¬ n + k = a := fun e => by omega
theorem ne_at {a n : Nat} (h : a < n) : ¬ a = n := fun e => by omega
theorem ne_at' {a n : Nat} (h : a < n) : ¬ n = a := fun e => by omega
theorem lt_of_get {h : H} {b : Nat} {x : Blk} (hb : hget h b = some x) : b < h.size := (Array.getElem?_eq_some_iff.1 (show h[b]? = _ from hb)).1
def Keeps (h h' : H) (S : Nat → Prop) : Prop := h.size ≤ h'.size ∧ ∀ b,b < h.size → ¬ S b → hget h' b = hget h b
theorem Keeps.refl (h : H) (S : Nat → Prop) : Keeps h h S := ⟨Nat.le_refl _,fun _ _ _ => rfl⟩
theorem Keeps.trans {h h1 h2 : H} {S : Nat → Prop} (a : Keeps h h1 S) (b : Keeps h1 h2 S) : Keeps h h2 S :=
 ⟨Nat.le_trans a.1 b.1,fun x hx hs => (b.2 x (Nat.lt_of_lt_of_le hx a.1) hs).trans (a.2 x hx hs)⟩
theorem Keeps.push {h h1 : H} {S : Nat → Prop} (a : Keeps h h1 S) (x : Blk) : Keeps h (h1.push x) S :=
 ⟨by have := a.1;simp;omega,fun b hb hs => (push_old (Nat.lt_of_lt_of_le hb a.1)).trans (a.2 b hb hs)⟩
theorem Keeps.row {h h1 : H} {S : Nat → Prop} (a : Keeps h h1 S) (cs : List Value) (es : Nat) (an : List Nat) : Keeps h (newRow h1 cs es an) S := a.push _
theorem Keeps.set {h h1 : H} {S : Nat → Prop} (a : Keeps h h1 S) {b : Nat} (hb : b < h.size → S b) (x : Blk) : Keeps h (h1.setIfInBounds b x) S :=
 ⟨by have := a.1;simpa using this,fun c hc hs => (set_other (fun e => hs (by subst e;exact hb hc))).trans (a.2 c hc hs)⟩
theorem Keeps.set_new {h h1 : H} {S : Nat → Prop} {b : Nat} (a : Keeps h h1 S) (hb : h.size ≤ b) (x : Blk) : Keeps h (h1.setIfInBounds b x) S := a.set (fun q => absurd q (Nat.not_lt.2 hb)) x
theorem Keeps.set_may {h h1 : H} {S : Nat → Prop} {b : Nat} (a : Keeps h h1 S) (hb : S b) (x : Blk) : Keeps h (h1.setIfInBounds b x) S := a.set (fun _ => hb) x
theorem Keeps.get {h h' : H} {S : Nat → Prop} (a : Keeps h h' S) {b : Nat} {x : Blk} (hb : hget h b = some x) (hs : ¬ S b) : hget h' b = some x := by
 rw [a.2 b (lt_of_get hb) hs];exact hb
theorem Keeps.weak {h h' : H} {S S' : Nat → Prop} (a : Keeps h h' S) (hs : ∀ b,S b → S' b) : Keeps h h' S' := ⟨a.1,fun b hb h => a.2 b hb fun q => h (hs b q)⟩
theorem Keeps.past {h h1 h2 : H} {S : Nat → Prop} (a : Keeps h h1 S) (b : Keeps h1 h2 fun x => S x ∨ h.size ≤ x) : Keeps h h2 S :=
 ⟨Nat.le_trans a.1 b.1,fun x hx hs => (b.2 x (Nat.lt_of_lt_of_le hx a.1) (fun q => q.elim hs (fun q => Nat.lt_irrefl _ (Nat.lt_of_lt_of_le hx q)))).trans (a.2 x hx hs)⟩
theorem wrap_in {n : Int} (h1 : -9223372036854775808 ≤ n) (h2 : n ≤ 9223372036854775807) : IntKind.i64.wrap n = n := IntWalk.i64_in n ⟨h1,h2⟩
end Go.Ev
namespace Go.Ev
theorem zS : (∀ {h : H} {cs : List Value} {es : Nat} {an : List Nat}, (newRow h cs es an).size = h.size + 1) ∧ (∀ {h : H} {i : Nat} {x : Blk}, (h.setIfInBounds i x).size = h.size) ∧ (∀ {h : H} {x : Blk}, (h.push x).size = h.size + 1) := ⟨newRow_size, Array.size_setIfInBounds, Array.size_push ..⟩
end Go.Ev
namespace Go.Ev
def evP (cx : Cx) (ops : List AOper) (s : Env) (h : H) (kn : K) (ds : Ds) : Res := evOps cx ops s h ds fun s' h' => kn s' h' ds
def nextP (x : Option (Value × H)) (cx : Cx) (d : Option Nat) (os : List AOper) (s : Env) (kn : K) (ds : Ds) : Res := match x with
 | some (v,h') => evP cx os (setD s d v) h' kn ds
 | none => none
def deferK (f : Operand) (args : List Operand) (keep : List Nat) (kn : K) : K := fun s h ds => match evDefer s f args with
 | some d => kn (s.keep keep) h (d :: ds)
 | none => none
section
variable {cx : Cx} {F : Nat} {s : Env} {h : H} {kn kr : K} {ke : Nat → K} {ds : Ds} {keep : List Nat} {d : Option Nat} {os pre : List AOper} {v : Value} {f : Operand} {args : List Operand}
@[simp] theorem evC_defer : evC F cx (.defer pre f args keep) kn ke kr s h ds = evP cx pre s h (deferK f args keep kn) ds := nr rfl
@[simp] theorem evP_nil : evP cx [] s h kn ds = kn s h ds := nr rfl
@[simp] theorem evP_op {o : AOp} : evP cx (⟨d,none,.op o⟩ :: os) s h kn ds = nextP (evOp o s h) cx d os s kn ds := by
 simp only [evP,evOps,evOper,evAct,nextP,panAct,cond_false]
 cases evOp o s h <;> rfl
@[simp] theorem nextP_some {h' : H} : nextP (some (v,h')) cx d os s kn ds = evP cx os (setD s d v) h' kn ds := nr rfl
@[simp] theorem deferK_fn {g : FuncId} : deferK (.func g) args keep kn s h ds = kn (s.keep keep) h (⟨g,args.map (aeval s)⟩ :: ds) := by
 simp [deferK,evDefer,aeval]
end
end Go.Ev
namespace Go.Ev
def Kept (h h' : H) (L : List Nat) : Prop := h.size ≤ h'.size ∧ ∀ b,b < h.size → b ∉ L → hget h' b = hget h b
theorem Kept.refl (h : H) (L : List Nat) : Kept h h L := ⟨Nat.le_refl _,fun _ _ _ => rfl⟩
theorem Kept.trans {h h1 h2 : H} {L : List Nat} (a : Kept h h1 L) (b : Kept h1 h2 L) : Kept h h2 L :=
 ⟨Nat.le_trans a.1 b.1,fun x hx hs => (b.2 x (Nat.lt_of_lt_of_le hx a.1) hs).trans (a.2 x hx hs)⟩
theorem Kept.get {h h' : H} {L : List Nat} (a : Kept h h' L) {b : Nat} (hb : b < h.size) (hs : b ∉ L) : hget h' b = hget h b := a.2 b hb hs
theorem Kept.weak {h h' : H} {L M : List Nat} (a : Kept h h' L) (hs : ∀ b ∈ L,b ∈ M) : Kept h h' M := ⟨a.1,fun b hb h => a.2 b hb fun q => h (hs b q)⟩
theorem Kept.of_nil {h h' : H} {L : List Nat} (a : Kept h h' []) : Kept h h' L := a.weak nofun
theorem loop_rule {cf : Cx} {F0 : Nat} {live : List Nat} {c : ACode} {ke : Nat → K} {kr : K} {ds : Ds} {Q : Value → H → Prop} (I : Nat → Env → H → Prop)
  (step : ∀ m s h again,I m s h → (∀ m' s' h',m' < m → I m' s' h' → Ans (again s' h' ds) Q) → Ans (evC F0 cf c (keepK live again) ke kr s h ds) Q) :
  ∀ fuel m s h,m < fuel → I m s h → Ans (loopK F0 cf live c ke kr fuel s h ds) Q := by
 intro fuel
 induction fuel with
 | zero => intro m s h hm;omega
 | succ n ih =>
  intro m s h hm hi
  rw [loopK_succ]
  exact step m s h _ hi fun m' s' h' hlt hi' => ih m' s' h' (by omega) hi'
theorem wrap_id {n : Int} (h1 : -9223372036854775808 ≤ n) (h2 : n < 9223372036854775808) : IntKind.i64.wrap n = n := wrap_in h1 (by omega)
theorem eqT {a b : Int} (h : a = b) : (a == b) = true := by simpa using h
theorem eqF {a b : Int} (h : ¬ a = b) : (a == b) = false := by simpa using h
theorem neT {a b : Int} (h : ¬ a = b) : (a != b) = true := by simpa using h
theorem neF {a b : Int} (h : a = b) : (a != b) = false := by simpa using h
theorem ltT {a b : Int} (h : a < b) : (a < b) = True := by simpa using h
theorem ltF {a b : Int} (h : ¬ a < b) : (a < b) = False := by simpa using h
theorem leT {a b : Int} (h : a ≤ b) : (a ≤ b) = True := by simpa using h
theorem leF {a b : Int} (h : ¬ a ≤ b) : (a ≤ b) = False := by simpa using h
theorem nltT {a b : Nat} (h : a < b) : (a < b) = True := by simpa using h
theorem nltF {a b : Nat} (h : ¬ a < b) : (a < b) = False := by simpa using h
theorem nleT {a b : Nat} (h : a ≤ b) : (a ≤ b) = True := by simpa using h
theorem nleF {a b : Nat} (h : ¬ a ≤ b) : (a ≤ b) = False := by simpa using h
theorem nneT {a b : Nat} (h : a = b) : (a = b) = True := by simpa using h
theorem nneF {a b : Nat} (h : ¬ a = b) : (a = b) = False := by simpa using h
@[simp] theorem set_push {h : H} {x y : Blk} {b : Nat} (hb : b = h.size) : Array.setIfInBounds (h.push x) b y = h.push y := by
 subst hb
 apply Array.ext
 ·simp
 ·intro i h1 h2
  simp only [Array.size_setIfInBounds,Array.size_push] at h1
  rw [Array.getElem_setIfInBounds]
  ·by_cases e : h.size = i
   ·subst e;simp
   ·rw [if_neg e,Array.getElem_push_lt (by omega),Array.getElem_push_lt (by omega)]
  ·simpa using h1
@[simp] theorem set_row {h : H} {cs : List Value} {es b : Nat} {an : List Nat} {y : Blk} (hb : b = h.size) : Array.setIfInBounds (newRow h cs es an) b y = h.push y := set_push hb
theorem push_row {h : H} {cs : List Value} {es : Nat} {an : List Nat} : h.push (.cells cs es true an) = newRow h cs es an := rfl
attribute [simp] push_row
def panE (cx : Cx) (ops : List DOp) (ds : Ds) (s0 : Env) (h : H) (v : Value) : Res := cx.p v (rest s0 ops) h ds
def evE (cx : Cx) (l : List DOp) (s : Env) (h : H) (kn : K) (keep : List Nat) (ds : Ds) (ops : List DOp) (s0 : Env) : Res := goD cx.c l s h fun _ s' h' x => match x with
 | none => kn (s'.keep keep) h' ds
 | some v => panE cx ops ds s0 h' v
def nextE (x : Option (Value × H)) (cx : Cx) (d : Option Nat) (l : List DOp) (s : Env) (kn : K) (keep : List Nat) (ds : Ds) (ops : List DOp) (s0 : Env) : Res := match x with
 | some (v,h') => evE cx l (setD s d v) h' kn keep ds ops s0
 | none => none
def nextCE (x : Option (Value × H)) (pn : Bool) (cx : Cx) (d : Option Nat) (l : List DOp) (s : Env) (kn : K) (keep : List Nat) (ds : Ds) (ops : List DOp) (s0 : Env) : Res := match x with
 | some (v,h') => bif isPan v then (bif pn then panE cx ops ds s0 h' v else none) else evE cx l (setD s d v) h' kn keep ds ops s0
 | none => none
def guardE (v : Value) (b : Bool) (i : Nat) (sl : List Nat) (pn : Bool) (ac : AAct) (cx : Cx) (d : Option Nat) (l : List DOp) (s : Env) (h : H) (kn : K) (keep : List Nat) (ds : Ds) (ops : List DOp) (s0 : Env) : Res := match v with
 | .bool c => bif c == b then evE cx (⟨i,⟨d,none,ac⟩,sl,pn⟩ :: l) s h kn keep ds ops s0 else evE cx l (setD s d unset) h kn keep ds ops s0
 | .tuple ⟨[]⟩ => evE cx l (setD s d unset) h kn keep ds ops s0
 | _ => none
section
variable {cx : Cx} {F : Nat} {s s0 : Env} {h : H} {kn kr : K} {ke : Nat → K} {ds : Ds} {keep : List Nat} {d : Option Nat} {v : Value} {l ops : List DOp}
@[simp high] theorem evC_regionE {ops : List DOp} : evC F cx (.regionD ops [] keep) kn ke kr s h ds = evE cx ops s h kn keep ds ops s := by
 show evRegionD cx ops [] s h ds _ = _
 unfold evE evRegionD
 rw [goD_eq]
 cases trace cx.c ops s h with
 | none => rfl
 | some p =>
  obtain ⟨a,b,c,x⟩ := p
  cases x with
  | none => simp [chks]
  | some v => simp [chks,panE]
@[simp] theorem evE_nil : evE cx [] s h kn keep ds ops s0 = kn (s.keep keep) h ds := nr rfl
@[simp] theorem evE_op {i : Nat} {o : AOp} {sl : List Nat} {pn : Bool} : evE cx (⟨i,⟨d,none,.op o⟩,sl,pn⟩ :: l) s h kn keep ds ops s0 = nextE (evOp o (s.keep sl) h) cx d l s kn keep ds ops s0 := by
 simp only [evE,goD,wantedA,evAct,nextE,panAct,cond_false]
 all_goals
  cases evOp o (s.keep sl) h with
  | none => rfl
  | some p => rfl
@[simp] theorem evE_call {i : Nat} {f : Operand} {args : List Operand} {sl : List Nat} {pn : Bool} : evE cx (⟨i,⟨d,none,.call f args⟩,sl,pn⟩ :: l) s h kn keep ds ops s0 = nextCE (callV cx.c (aeval (s.keep sl) f) (args.map (aeval (s.keep sl))) h) pn cx d l s kn keep ds ops s0 := by
 have e : evAct cx.c (.call f args) (s.keep sl) h = callV cx.c (aeval (s.keep sl) f) (args.map (aeval (s.keep sl))) h := by
  simp only [evAct,callV]
  split <;> (rename_i hf;split <;> simp_all)
 rw [← e]
 simp only [evE,goD,wantedA,nextCE,panAct]
 all_goals
  cases evAct cx.c (.call f args) (s.keep sl) h with
  | none => rfl
  | some p =>
   cases hp : isPan p.1 with
   | false => simp only [hp,cond_false]
   | true => cases pn <;> simp only [hp,cond_true,cond_false]
@[simp] theorem evE_guard {i t : Nat} {b : Bool} {ac : AAct} {sl : List Nat} {pn : Bool} : evE cx (⟨i,⟨d,some (t,b),ac⟩,sl,pn⟩ :: l) s h kn keep ds ops s0 = guardE ((s.keep sl).get t) b i sl pn ac cx d l s h kn keep ds ops s0 := by
 simp only [evE,goD,wantedA,guardE]
 generalize (s.keep sl).get t = u
 cases u with
 | bool c =>
  cases hcb : c == b with
  | true => simp only [hcb,cond_true]
  | false => simp only [hcb,cond_false]
 | tuple vs =>
  obtain ⟨l'⟩ := vs
  cases l' with
  | nil => rfl
  | cons _ _ => rfl
 | _ => rfl
@[simp] theorem nextE_some {h' : H} : nextE (some (v,h')) cx d l s kn keep ds ops s0 = evE cx l (setD s d v) h' kn keep ds ops s0 := nr rfl
@[simp] theorem nextCE_some {h' : H} {pn : Bool} : nextCE (some (v,h')) pn cx d l s kn keep ds ops s0 = bif isPan v then (bif pn then panE cx ops ds s0 h' v else none) else evE cx l (setD s d v) h' kn keep ds ops s0 := nr rfl
@[simp] theorem panE_eq : panE cx ops ds s0 h v = cx.p v (rest s0 ops) h ds := nr rfl
section
variable {i : Nat} {sl : List Nat} {pn : Bool} {ac : AAct}
@[simp] theorem guardE_tt : guardE (.bool true) true i sl pn ac cx d l s h kn keep ds ops s0 = evE cx (⟨i,⟨d,none,ac⟩,sl,pn⟩ :: l) s h kn keep ds ops s0 := nr rfl
@[simp] theorem guardE_ff : guardE (.bool false) false i sl pn ac cx d l s h kn keep ds ops s0 = evE cx (⟨i,⟨d,none,ac⟩,sl,pn⟩ :: l) s h kn keep ds ops s0 := nr rfl
@[simp] theorem guardE_tf : guardE (.bool true) false i sl pn ac cx d l s h kn keep ds ops s0 = evE cx l (setD s d unset) h kn keep ds ops s0 := nr rfl
@[simp] theorem guardE_ft : guardE (.bool false) true i sl pn ac cx d l s h kn keep ds ops s0 = evE cx l (setD s d unset) h kn keep ds ops s0 := nr rfl
@[simp] theorem guardE_un {b : Bool} : guardE unset b i sl pn ac cx d l s h kn keep ds ops s0 = evE cx l (setD s d unset) h kn keep ds ops s0 := nr rfl
end
theorem Ans.nextCE {x : Option (Value × H)} {Q R : Value → H → Prop} {pn : Bool} (a : Ans x Q) (hk : ∀ v h',Q v h' → Ans (bif isPan v then (bif pn then panE cx ops ds s0 h' v else none) else evE cx l (setD s d v) h' kn keep ds ops s0) R) : Ans (Ev.nextCE x pn cx d l s kn keep ds ops s0) R := by
 obtain ⟨v,h,rfl,q⟩ := a;exact hk v h q
theorem evAct_call {cf : CF} {f : Operand} {args : List Operand} : evAct cf (.call f args) s h = callV cf (aeval s f) (args.map (aeval s)) h := by
 simp only [evAct,callV]
 split <;> (rename_i hf;split <;> simp_all)
attribute [simp] evAct_call
end
def appV (src : Option (Nat × List Value)) (h : H) (es bytes : Nat) (d : Value) : Option (Value × H) := match src with
 | some (n,new) => if new.all oneCell = true then appendTo h es bytes d n new else none
 | none => none
@[simp ↓ high] theorem evOp_append {str : Bool} {es bytes : Nat} {d x : Operand} {s : Env} {h : H} : evOp (.append str es bytes d x) s h = if isText (aeval s x) = str then appV (srcOf h es (aeval s x)) h es bytes (aeval s d) else none := nr rfl
@[simp] theorem appV_some {n : Nat} {new : List Value} {h : H} {es bytes : Nat} {d : Value} : appV (some (n,new)) h es bytes d = if new.all oneCell = true then appendTo h es bytes d n new else none := nr rfl
def chkA (cf : CF) (d : Option DOp) (t : Option TR) (ts : List TR) (h1 : H) (ps : List Nat) : Bool := match d,t with
 | some d,some t => ps.all fun p => chk1 cf d t (hAt ts h1 p)
 | _,_ => false
def chkV (x : Option (Value × H)) (w : Value) : Bool := match x with
 | some (v,_) => sameV v w
 | none => false
def hOf (x : Option TR) (h1 : H) : H := match x with
 | some t => t.hin
 | none => h1
section
variable {cx : Cx} {cf : CF} {ops : List DOp} {ts : List TR} {h h1 : H} {wins : List (Nat × List Nat)} {keep : List Nat} {kn : K} {ds : Ds} {s e : Env}
theorem dk_go : DK.go cx ⟨ops,wins,keep,kn,ds⟩ ts s h = if chks cx.c ops ts h wins = true then kn (s.keep keep) h ds else none := nr rfl
theorem chks_nil : chks cf ops ts h1 [] = true := nr rfl
theorem chks_cons {x : Nat} {ps : List Nat} {r : List (Nat × List Nat)} : chks cf ops ts h1 ((x,ps) :: r) = (chkA cf ops[x]? ts[x]? ts h1 ps && chks cf ops ts h1 r) := by
 simp only [chks,chkA]
 rcases ops[x]? with _ | d <;> rcases ts[x]? with _ | t <;> rfl
theorem chkA_nil {d : DOp} {t : TR} : chkA cf (some d) (some t) ts h1 [] = true := nr rfl
theorem chkA_cons {d : DOp} {t : TR} {p : Nat} {ps : List Nat} : chkA cf (some d) (some t) ts h1 (p :: ps) = (chk1 cf d t (hAt ts h1 p) && chkA cf (some d) (some t) ts h1 ps) := nr rfl
theorem chk1_no {d : DOp} {v : Value} {h0 : H} : chk1 cf d ⟨e,h0,false,v⟩ h = true := nr rfl
theorem chk1_yes {i : Nat} {pn : Bool} {dst : Option Nat} {g : Option (Nat × Bool)} {ac : AAct} {sl : List Nat} {v : Value} {h0 : H} : chk1 cf ⟨i,⟨dst,g,ac⟩,sl,pn⟩ ⟨e,h0,true,v⟩ h = chkV (evAct cf ac e h) v := nr rfl
theorem chkV_some {v w : Value} : chkV (some (v,h)) w = sameV v w := nr rfl
theorem hAt_eq {k : Nat} : hAt ts h1 k = hOf ts[k]? h1 := nr rfl
theorem hOf_some {h0 : H} {b : Bool} {v : Value} : hOf (some ⟨e,h0,b,v⟩) h1 = h0 := nr rfl
theorem hOf_none : hOf none h1 = h1 := nr rfl
end
def lenV : Value → Option Value
 | .slice none 0 0 => some (.int .i64 0)
 | .slice (some _) n _ => some (.int .i64 n)
 | _ => none
@[simp] theorem lenV_nil : lenV (.slice none 0 0) = some (.int .i64 0) := nr rfl
@[simp] theorem lenV_some {a : Addr} {n c : Nat} : lenV (.slice (some a) n c) = some (.int .i64 n) := nr rfl
@[simp ↓ high] theorem evOp_lenSlice {x : Operand} {s : Env} {h : H} : evOp (.lenSlice x) s h = (lenV (aeval s x)).map fun v => (v,h) := by
 show (match aeval s x with
  | .slice none 0 0 => some (Value.int .i64 0,h)
  | .slice (some _) n _ => some (.int .i64 n,h)
  | _ => none) = _
 unfold lenV
 split <;> rfl
theorem fn_id {α : Sort _} {β : Sort _} (f : α → β) {a b : α} (h : a = b) : f a = f b := by rw [h]
end Go.Ev
namespace Go.Ev
theorem bB : (∀ {a b : Int}, a = b → (a == b) = true) ∧ (∀ {a b : Int}, ¬ a = b → (a == b) = false) ∧ (∀ {a b : Int}, ¬ a = b → (a != b) = true) ∧ (∀ {a b : Int}, a = b → (a != b) = false) ∧ (∀ {a b : Int}, a < b → (a < b) = True) ∧ (∀ {a b : Int}, ¬ a < b → (a < b) = False) ∧ (∀ {a b : Int}, a ≤ b → (a ≤ b) = True) ∧ (∀ {a b : Int}, ¬ a ≤ b → (a ≤ b) = False) ∧ (∀ {a b : Nat}, a < b → (a < b) = True) ∧ (∀ {a b : Nat}, ¬ a < b → (a < b) = False) ∧ (∀ {a b : Nat}, a ≤ b → (a ≤ b) = True) ∧ (∀ {a b : Nat}, ¬ a ≤ b → (a ≤ b) = False) ∧ (∀ {a b : Nat}, a = b → (a = b) = True) ∧ (∀ {a b : Nat}, ¬ a = b → (a = b) = False) ∧ (∀ {α : Type} {a : α} {l : List α}, (a :: l)[0]? = some a) ∧ (∀ {α : Type} {a : α} {l : List α} {i : Nat}, (a :: l)[i + 1]? = l[i]?) := ⟨eqT, eqF, neT, neF, ltT, ltF, leT, leF, nltT, nltF, nleT, nleF, nneT, nneF, rfl, rfl⟩
end Go.Ev
namespace Go.Proofs.YtalamcchkkdelaaGreatDoor
open Go.Ev
set_option maxRecDepth 100000
def str47_108 : ByteArray := { data := #[47,108] }
def str120 : ByteArray := { data := #[120] }
def str108 : ByteArray := { data := #[108] }
def strL93745279 : ByteArray := { data := #[47,108,47,108,111,99,107,45] }
def str115_112_111_105_108_116 : ByteArray := { data := #[115,112,111,105,108,116] }
def str109 : ByteArray := { data := #[109] }
def str119 : ByteArray := { data := #[119] }
def strL82bacf63 : ByteArray := { data := #[47,101,108,115,101,119,104,101,114,101,47] }
def str108_111_99_107_45 : ByteArray := { data := #[108,111,99,107,45] }
def str118_111_116_101_45 : ByteArray := { data := #[118,111,116,101,45] }
def str119_97_105_116_45 : ByteArray := { data := #[119,97,105,116,45] }
def str105_116_101_109_45 : ByteArray := { data := #[105,116,101,109,45] }
def str111_116_104_101_114 : ByteArray := { data := #[111,116,104,101,114] }
def str108_111_99_107_45_49 : ByteArray := { data := #[108,111,99,107,45,49] }
def strL2f48549d : ByteArray := { data := #[105,116,101,109,45,48,48,48,48,48,48] }
def str47 : ByteArray := { data := #[47] }
def str48_48_48_48_48 : ByteArray := { data := #[48,48,48,48,48] }
def str48 : ByteArray := { data := #[48] }
def str46 : ByteArray := { data := #[46] }
def str46_46 : ByteArray := { data := #[46,46] }
end Go.Proofs.YtalamcchkkdelaaGreatDoor
