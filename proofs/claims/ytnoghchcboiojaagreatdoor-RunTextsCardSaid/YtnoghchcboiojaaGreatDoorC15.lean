/- Texts of the proofs over heraldlaw18, put together by a program (merge18c.py): Ev17 Ev18 Ev19 Ev20 Ev21 Rt0. -/
import Derived.Test.YtnoghchcboiojaaGreatDoorC14
import Derived.IntWalk
import Derived.ChangeArms
import Derived.Test.YtnoghchcboiojaaGreatDoorC0
set_option linter.unusedVariables false
set_option linter.unusedSimpArgs false
namespace Go.Ev
def Ans (x : Res) (Q : Value → H → Prop) : Prop := ∃ v h,x = some (v,h) ∧ Q v h
theorem Ans.of {v : Value} {h : H} {Q : Value → H → Prop} (hq : Q v h) : Ans (some (v,h)) Q := ⟨v,h,rfl,hq⟩
theorem Ans.mono {x : Res} {Q R : Value → H → Prop} (e : Ans x Q) (hq : ∀ v h,Q v h → R v h) : Ans x R := by
 obtain ⟨v,h,e,q⟩ := e;exact ⟨v,h,e,hq v h q⟩
theorem Ans.eq {x : Res} {Q : Value → H → Prop} (e : Ans x Q) {v : Value} {h : H} (e' : x = some (v,h)) : Q v h := by
 obtain ⟨v',h',e,q⟩ := e;rw [e'] at e;cases e;exact q
theorem nr {α : Sort _} {a b : α} (h : a = b) : a = b := h
def callV (cf : CF) (v : Value) (args : List Value) (h : H) : Option (Value × H) := match v with
 | .func (.func g) ⟨first⟩ ⟨cap⟩ => cf g (first ++ args ++ cap) h
 | _ => none
@[simp] theorem callV_func (cf : CF) (g : FuncId) (args : List Value) (h : H) : callV cf (.func (.func g) #[] #[]) args h = cf g args h := by
 show cf g ([] ++ args ++ []) h = _
 simp
variable {cx : Cx} {cf : CF} {F F0 : Nat} {s : Env} {h : H} {k : Env → H → Res} {kn kr : K} {ke : Nat → K} {ds : Ds} {keep live : List Nat} {d : Option Nat} {os : List AOper} {v : Value}
def evR (cx : Cx) (ops : List AOper) (s : Env) (h : H) (kn : K) (keep : List Nat) (ds : Ds) : Res := evOps cx ops s h ds fun s' h' => kn (s'.keep keep) h' ds
def nextR (x : Option (Value × H)) (cx : Cx) (d : Option Nat) (os : List AOper) (s : Env) (kn : K) (keep : List Nat) (ds : Ds) : Res := match x with
 | some (v,h') => evR cx os (setD s d v) h' kn keep ds
 | none => none
def nextC (x : Option (Value × H)) (cx : Cx) (d : Option Nat) (os : List AOper) (s : Env) (kn : K) (keep : List Nat) (ds : Ds) : Res := match x with
 | some (v,h') => bif isPan v then cx.p v s h' ds else evR cx os (setD s d v) h' kn keep ds
 | none => none
def guardR (v : Value) (b : Bool) (ac : AAct) (cx : Cx) (d : Option Nat) (os : List AOper) (s : Env) (h : H) (kn : K) (keep : List Nat) (ds : Ds) : Res := match v with
 | .bool c => bif c == b then evR cx (⟨d,none,ac⟩ :: os) s h kn keep ds else evR cx os (setD s d unset) h kn keep ds
 | .tuple ⟨[]⟩ => evR cx os (setD s d unset) h kn keep ds
 | _ => none
def condC (v : Value) (F : Nat) (cx : Cx) (a b : ACode) (kn : K) (ke : Nat → K) (kr : K) (s : Env) (h : H) (ds : Ds) : Res := match v with
 | .bool true => evC F cx a kn ke kr s h ds
 | .bool false => evC F cx b kn ke kr s h ds
 | _ => none
def putK (i : Nat) (kn : K) (ke : Nat → K) : Nat → K := fun j => if j = i then kn else ke j
def noK : Nat → K := fun _ _ _ _ => none
def endK (cd : DCF) (rs : List ARes) : K := fun s h ds => evEnd cd rs s ds h none
def cxOf (cf : CF) (cd : DCF) (rs : List ARes) : Cx := ⟨cf,fun v s h ds => evEnd cd rs s ds h (some (unpan v))⟩
def keepK (live : List Nat) (k : K) : K := fun s h ds => k (s.keep live) h ds
def loopK (F0 : Nat) (cx : Cx) (live : List Nat) (c : ACode) (ke : Nat → K) (kr : K) : Nat → K := evLoop fun again => evC F0 cx c (keepK live again) ke kr
@[simp] theorem isPan_pv (x : Value) : isPan (pv x) = true := nr rfl
@[simp] theorem unpan_pv (x : Value) : unpan (pv x) = x := nr rfl
section
variable (b : Bool) (K : IntKind) (z : Int) (t : ByteArray) (p : Option Addr) (l c : Nat) (a : Array Value) (m : Option Nat) (g : Fn) (a2 : Array Value) (ty : TypeId) (v : Value)
@[simp] theorem isPan_bool : isPan (.bool b) = false := nr rfl
@[simp] theorem isPan_int : isPan (.int K z) = false := nr rfl
@[simp] theorem isPan_string : isPan (.string t) = false := nr rfl
@[simp] theorem isPan_pointer : isPan (.pointer p) = false := nr rfl
@[simp] theorem isPan_slice : isPan (.slice p l c) = false := nr rfl
@[simp] theorem isPan_agg : isPan (.agg a) = false := nr rfl
@[simp] theorem isPan_map : isPan (.map m) = false := nr rfl
@[simp] theorem isPan_func : isPan (.func g a a2) = false := nr rfl
@[simp] theorem isPan_nilFunc : isPan .nilFunc = false := nr rfl
@[simp] theorem isPan_nilIface : isPan .nilIface = false := nr rfl
@[simp] theorem isPan_iface : isPan (.iface ty v) = false := nr rfl
@[simp] theorem isPan_t0 : isPan (.tuple ⟨[]⟩) = false := nr rfl
@[simp] theorem isPan_t1 (x : Value) : isPan (.tuple ⟨[x]⟩) = false := by unfold isPan;split <;> simp_all
@[simp] theorem isPan_t2 (x y : Value) : isPan (.tuple ⟨[x,y]⟩) = false := by unfold isPan;split <;> simp_all
@[simp] theorem isPan_t4 (x y z w : Value) (l : List Value) : isPan (.tuple ⟨x :: y :: z :: w :: l⟩) = false := by unfold isPan;split <;> simp_all
@[simp] theorem isPan_tb (x y : Value) : isPan (.tuple ⟨[.bool b,x,y]⟩) = false := nr rfl
@[simp] theorem isPan_ti (x y : Value) : isPan (.tuple ⟨[.int K z,x,y]⟩) = false := nr rfl
@[simp] theorem isPan_ts (x y : Value) : isPan (.tuple ⟨[.string t,x,y]⟩) = false := nr rfl
@[simp] theorem isPan_tp (x y : Value) : isPan (.tuple ⟨[.pointer p,x,y]⟩) = false := nr rfl
@[simp] theorem isPan_tl (x y : Value) : isPan (.tuple ⟨[.slice p l c,x,y]⟩) = false := nr rfl
@[simp] theorem isPan_ta (x y : Value) : isPan (.tuple ⟨[.agg a,x,y]⟩) = false := nr rfl
end
@[simp] theorem nextR_some {h' : H} : nextR (some (v,h')) cx d os s kn keep ds = evR cx os (setD s d v) h' kn keep ds := nr rfl
@[simp] theorem nextC_some {h' : H} : nextC (some (v,h')) cx d os s kn keep ds = bif isPan v then cx.p v s h' ds else evR cx os (setD s d v) h' kn keep ds := nr rfl
@[simp] theorem cxOf_c {cd : DCF} {rs : List ARes} : (cxOf cf cd rs).c = cf := nr rfl
@[simp] theorem cxOf_p {cd : DCF} {rs : List ARes} : (cxOf cf cd rs).p v s h ds = evEnd cd rs s ds h (some (unpan v)) := nr rfl
theorem Ans.next {x : Option (Value × H)} {Q R : Value → H → Prop} (e : Ans x Q) (hk : ∀ v h,Q v h → Ans (bif isPan v then cx.p v s h ds else evR cx os (setD s d v) h kn keep ds) R) : Ans (nextC x cx d os s kn keep ds) R := by
 obtain ⟨v,h,rfl,q⟩ := e;exact hk v h q
@[simp] theorem guardR_tt {ac : AAct} : guardR (.bool true) true ac cx d os s h kn keep ds = evR cx (⟨d,none,ac⟩ :: os) s h kn keep ds := nr rfl
@[simp] theorem guardR_ff {ac : AAct} : guardR (.bool false) false ac cx d os s h kn keep ds = evR cx (⟨d,none,ac⟩ :: os) s h kn keep ds := nr rfl
@[simp] theorem guardR_tf {ac : AAct} : guardR (.bool true) false ac cx d os s h kn keep ds = evR cx os (setD s d unset) h kn keep ds := nr rfl
@[simp] theorem guardR_ft {ac : AAct} : guardR (.bool false) true ac cx d os s h kn keep ds = evR cx os (setD s d unset) h kn keep ds := nr rfl
@[simp] theorem guardR_un {b : Bool} {ac : AAct} : guardR unset b ac cx d os s h kn keep ds = evR cx os (setD s d unset) h kn keep ds := nr rfl
@[simp] theorem condC_true {a b : ACode} : condC (.bool true) F cx a b kn ke kr s h ds = evC F cx a kn ke kr s h ds := nr rfl
@[simp] theorem condC_false {a b : ACode} : condC (.bool false) F cx a b kn ke kr s h ds = evC F cx b kn ke kr s h ds := nr rfl
@[simp] theorem putK_app {i j : Nat} : putK i kn ke j s h ds = if j = i then kn s h ds else ke j s h ds := by unfold putK;split <;> rfl
@[simp] theorem endK_nil {cd : DCF} {rs : List ARes} : endK cd rs s h [] = match evResL s h rs with
  | some l => bif isPan (packRes l) then none else some (packRes l,h)
  | none => none := nr rfl
@[simp] theorem endK_cons {cd : DCF} {rs : List ARes} {x : ADef} : endK cd rs s h (x :: ds) = match cd x.fn x.args h none with
  | some (m,h') => evEnd cd rs s ds h' m
  | none => none := nr rfl
@[simp] theorem evEnd_pan {cd : DCF} {rs : List ARes} {x : Value} : evEnd cd rs s [] h (some x) = some (pv x,h) := nr rfl
@[simp] theorem evEnd_nil {cd : DCF} {rs : List ARes} : evEnd cd rs s [] h none = match evResL s h rs with
  | some l => bif isPan (packRes l) then none else some (packRes l,h)
  | none => none := nr rfl
@[simp] theorem evEnd_cons {cd : DCF} {rs : List ARes} {x : ADef} {m : Option Value} : evEnd cd rs s (x :: ds) h m = match cd x.fn x.args h m with
  | some (m',h') => evEnd cd rs s ds h' m'
  | none => none := nr rfl
@[simp] theorem keepK_app : keepK live kn s h ds = kn (s.keep live) h ds := nr rfl
theorem loopK_succ {c : ACode} {n : Nat} : loopK F0 cx live c ke kr (n + 1) s h ds = evC F0 cx c (keepK live (loopK F0 cx live c ke kr n)) ke kr s h ds := nr rfl
@[simp] theorem evR_nil : evR cx [] s h kn keep ds = kn (s.keep keep) h ds := nr rfl
@[simp] theorem evR_op {o : AOp} : evR cx (⟨d,none,.op o⟩ :: os) s h kn keep ds = nextR (evOp o s h) cx d os s kn keep ds := by
 simp only [evR,evOps,evOper,evAct,nextR,panAct,cond_false]
 cases evOp o s h <;> rfl
@[simp] theorem evR_call {f : Operand} {args : List Operand} : evR cx (⟨d,none,.call f args⟩ :: os) s h kn keep ds = nextC (callV cx.c (aeval s f) (args.map (aeval s)) h) cx d os s kn keep ds := by
 simp only [evR,evOps,evOper,evAct,nextC,callV,panAct]
 split <;> rename_i hf <;> split at hf <;> simp_all
@[simp] theorem evR_panic {x : Operand} : evR cx (⟨d,none,.panic x⟩ :: os) s h kn keep ds = match aeval s x with
  | .iface t v => cx.p (pv (.iface t v)) s h ds
  | _ => none := by
 simp only [evR,evOps,evOper,evAct,panAct]
 generalize aeval s x = u
 cases u <;> first
  | rfl
  | (simp only [isPan_pv,cond_true])
@[simp] theorem evR_guard {t : Nat} {b : Bool} {ac : AAct} : evR cx (⟨d,some (t,b),ac⟩ :: os) s h kn keep ds = guardR (s.get t) b ac cx d os s h kn keep ds := by
 simp only [evR,evOps,evOper,guardR]
 generalize s.get t = u
 cases u with
 | bool c => cases evAct cx.c ac s h <;> rfl
 | tuple vs =>
  obtain ⟨l⟩ := vs
  cases l <;> rfl
 | _ => rfl
@[simp] theorem evC_skip : evC F cx .skip kn ke kr s h ds = kn s h ds := nr rfl
@[simp] theorem evC_region {ops : List AOper} : evC F cx (.region ops keep) kn ke kr s h ds = evR cx ops s h kn keep ds := nr rfl
@[simp] theorem evC_seq {a b : ACode} : evC F cx (.seq a b) kn ke kr s h ds = evC F cx a (evC F cx b kn ke kr) ke kr s h ds := nr rfl
@[simp] theorem evC_cond {c : Operand} {a b : ACode} : evC F cx (.cond c a b) kn ke kr s h ds = condC (aeval s c) F cx a b kn ke kr s h ds := nr rfl
@[simp] theorem evC_block {i : Nat} {c : ACode} : evC F cx (.block i c) kn ke kr s h ds = evC F cx c kn (putK i kn ke) kr s h ds := nr rfl
@[simp] theorem evC_loop {c : ACode} : evC F cx (.loop live c) kn ke kr s h ds = loopK F cx live c ke kr F (s.keep live) h ds := nr rfl
@[simp] theorem evC_exit {i : Nat} : evC F cx (.exit i) kn ke kr s h ds = ke i s h ds := nr rfl
@[simp] theorem evC_ret : evC F cx .ret kn ke kr s h ds = kr s h ds := nr rfl
@[simp] theorem get_nil (t : Nat) : Env.get [] t = junk := nr rfl
@[simp] theorem get_cons (i t : Nat) (v : Value) (r : Env) : Env.get ((i,v) :: r) t = bif i == t then v else Env.get r t := nr rfl
@[simp] theorem keep_nil (s : Env) : Env.keep s [] = [] := nr rfl
@[simp] theorem keep_cons (s : Env) (t : Nat) (ts : List Nat) : Env.keep s (t :: ts) = (t,s.get t) :: Env.keep s ts := nr rfl
@[simp] theorem setD_some (s : Env) (d : Nat) (v : Value) : setD s (some d) v = (d,v) :: s := nr rfl
@[simp] theorem setD_none (s : Env) (v : Value) : setD s none v = s := nr rfl
def uxor (k : IntKind) (a b : Int) : Int := k.wrap (BitVec.ofInt k.bits a ^^^ BitVec.ofInt k.bits b).toNat
section
variable (K : IntKind) (x y : Int)
@[simp] theorem intBin_add : intBin .add K x y = some (.int K (K.wrap (x + y))) := nr rfl
@[simp] theorem intBin_sub : intBin .sub K x y = some (.int K (K.wrap (x - y))) := nr rfl
@[simp] theorem intBin_mul : intBin .mul K x y = some (.int K (K.wrap (x * y))) := nr rfl
@[simp] theorem intBin_quo : intBin .quo K x y = if y = 0 then none else some (.int K (K.wrap (x.tdiv y))) := nr rfl
@[simp] theorem intBin_rem : intBin .rem K x y = if y = 0 then none else some (.int K (x.tmod y)) := nr rfl
@[simp] theorem intBin_xor : intBin .xor K x y = some (.int K (uxor K x y)) := nr rfl
@[simp] theorem intBin_eql : intBin .eql K x y = some (.bool (x == y)) := nr rfl
@[simp] theorem intBin_neq : intBin .neq K x y = some (.bool (x != y)) := nr rfl
@[simp] theorem intBin_lss : intBin .lss K x y = some (.bool (decide (x < y))) := nr rfl
@[simp] theorem intBin_leq : intBin .leq K x y = some (.bool (decide (x ≤ y))) := nr rfl
@[simp] theorem intBin_gtr : intBin .gtr K x y = some (.bool (decide (x > y))) := nr rfl
@[simp] theorem intBin_geq : intBin .geq K x y = some (.bool (decide (x ≥ y))) := nr rfl
end
theorem uxor_u8 (a b : Int) : 0 ≤ uxor .u8 a b ∧ uxor .u8 a b < 256 := by
 unfold uxor
 rw [IntKind.wrap_u8]
 omega
attribute [simp] aBin strBin aUn nilEq rd wr entriesOf partsOf fillL optInt cellsEq cellEq findM keyEq isKey
attribute [simp] aeval konst envOf evResL evRes1 packRes evOp one? oneCell vcells isText isKey
def goD (cf : CF) : List DOp → Env → H → (List TR → Env → H → Option Value → Res) → Res
 | [],s,h,k => k [] s h none
 | d :: l,s,h,k => match wantedA d.o.guard (s.keep d.slots) with
  | none => none
  | some false => goD cf l (setD s d.o.dst unset) h fun ts s2 h2 x => k (⟨s.keep d.slots,h,false,unset⟩ :: ts) s2 h2 x
  | some true => match evAct cf d.o.act (s.keep d.slots) h with
   | some (v,h1) => bif panAct d.o.act v then (bif d.pan then k (⟨s.keep d.slots,h,true,v⟩ :: blanks h1 l) s h1 (some v) else none)
    else goD cf l (setD s d.o.dst v) h1 fun ts s2 h2 x => k (⟨s.keep d.slots,h,true,v⟩ :: ts) s2 h2 x
   | none => none
theorem goD_eq : ∀ (ops : List DOp) (s : Env) (h : H) (k : List TR → Env → H → Option Value → Res),goD cf ops s h k = match trace cf ops s h with
  | some (ts,s1,h1,x) => k ts s1 h1 x
  | none => none
 | [],s,h,k => rfl
 | d :: l,s,h,k => by
  unfold goD trace
  cases wantedA d.o.guard (s.keep d.slots) with
  | none => rfl
  | some c =>
   cases c with
   | false =>
    simp only [goD_eq l]
    cases trace cf l (setD s d.o.dst unset) h with
    | none => rfl
    | some q => rfl
   | true =>
    simp only
    cases evAct cf d.o.act (s.keep d.slots) h with
    | none => rfl
    | some p =>
     obtain ⟨v,h1⟩ := p
     simp only [goD_eq l]
     cases panAct d.o.act v with
     | true => cases d.pan <;> rfl
     | false =>
      simp only [cond_false]
      cases trace cf l (setD s d.o.dst v) h1 with
      | none => rfl
      | some q => rfl
structure DK where
 ops : List DOp
 wins : List (Nat × List Nat)
 keep : List Nat
 kn : K
 ds : Ds
def DK.go (cx : Cx) (q : DK) (ts : List TR) (s : Env) (h : H) : Res := if chks cx.c q.ops ts h q.wins = true then q.kn (s.keep q.keep) h q.ds else none
def DK.pan (cx : Cx) (q : DK) (ts : List TR) (s0 : Env) (h : H) (v : Value) : Res := if chks cx.c q.ops ts h q.wins = true then cx.p v (rest s0 q.ops) h q.ds else none
def DK.end (cx : Cx) (q : DK) (s0 : Env) (ts : List TR) (s : Env) (h : H) : Option Value → Res
 | none => q.go cx ts s h
 | some v => q.pan cx ts s0 h v
def evD (cx : Cx) (l : List DOp) (ts : List TR) (s : Env) (h : H) (q : DK) (s0 : Env) : Res := goD cx.c l s h fun ts' s' h' x => q.end cx s0 (ts ++ ts') s' h' x
def nextD (x : Option (Value × H)) (cx : Cx) (d : Option Nat) (l : List DOp) (ts : List TR) (e s : Env) (h : H) (q : DK) (s0 : Env) : Res := match x with
 | some (v,h') => evD cx l (ts ++ [⟨e,h,true,v⟩]) (setD s d v) h' q s0
 | none => none
def nextCD (x : Option (Value × H)) (pn : Bool) (cx : Cx) (d : Option Nat) (l : List DOp) (ts : List TR) (e s : Env) (h : H) (q : DK) (s0 : Env) : Res := match x with
 | some (v,h') => bif isPan v then (bif pn then q.pan cx (ts ++ ⟨e,h,true,v⟩ :: blanks h' l) s0 h' v else none) else evD cx l (ts ++ [⟨e,h,true,v⟩]) (setD s d v) h' q s0
 | none => none
def guardD (v : Value) (b : Bool) (i : Nat) (sl : List Nat) (pn : Bool) (ac : AAct) (cx : Cx) (d : Option Nat) (l : List DOp) (ts : List TR) (e s : Env) (h : H) (q : DK) (s0 : Env) : Res := match v with
 | .bool c => bif c == b then evD cx (⟨i,⟨d,none,ac⟩,sl,pn⟩ :: l) ts s h q s0 else evD cx l (ts ++ [⟨e,h,false,unset⟩]) (setD s d unset) h q s0
 | .tuple ⟨[]⟩ => evD cx l (ts ++ [⟨e,h,false,unset⟩]) (setD s d unset) h q s0
 | _ => none
variable {l : List DOp} {ts : List TR} {e s0 : Env} {q : DK}
@[simp] theorem evC_regionD {ops : List DOp} {wins : List (Nat × List Nat)} : evC F cx (.regionD ops wins keep) kn ke kr s h ds = evD cx ops [] s h ⟨ops,wins,keep,kn,ds⟩ s := by
 show evRegionD cx ops wins s h ds _ = _
 unfold evD
 rw [goD_eq]
 unfold evRegionD
 cases trace cx.c ops s h with
 | none => rfl
 | some z =>
  obtain ⟨ts,s1,h1,x⟩ := z
  cases x with
  | none => simp only [DK.end,DK.go,List.nil_append]
  | some v => simp only [DK.end,DK.pan,List.nil_append]
@[simp] theorem evD_nil : evD cx [] ts s h q s0 = q.go cx ts s h := by simp [evD,goD,DK.end]
@[simp] theorem evD_op {i : Nat} {o : AOp} {sl : List Nat} {pn : Bool} : evD cx (⟨i,⟨d,none,.op o⟩,sl,pn⟩ :: l) ts s h q s0 = nextD (evOp o (s.keep sl) h) cx d l ts (s.keep sl) s h q s0 := by
 simp only [evD,goD,wantedA,evAct,nextD,panAct,cond_false]
 cases evOp o (s.keep sl) h with
 | none => rfl
 | some p => simp [List.append_assoc]
@[simp] theorem evD_call {i : Nat} {f : Operand} {args : List Operand} {sl : List Nat} {pn : Bool} : evD cx (⟨i,⟨d,none,.call f args⟩,sl,pn⟩ :: l) ts s h q s0 = nextCD (callV cx.c (aeval (s.keep sl) f) (args.map (aeval (s.keep sl))) h) pn cx d l ts (s.keep sl) s h q s0 := by
 have e : evAct cx.c (.call f args) (s.keep sl) h = callV cx.c (aeval (s.keep sl) f) (args.map (aeval (s.keep sl))) h := by
  simp only [evAct,callV]
  split <;> (rename_i hf;split <;> simp_all)
 rw [← e]
 simp only [evD,goD,wantedA,nextCD,panAct]
 cases evAct cx.c (.call f args) (s.keep sl) h with
 | none => rfl
 | some p =>
  simp only []
  cases isPan p.1 with
  | false => simp [List.append_assoc]
  | true => cases pn <;> simp [DK.end]
@[simp] theorem evD_guard {i t : Nat} {b : Bool} {ac : AAct} {sl : List Nat} {pn : Bool} : evD cx (⟨i,⟨d,some (t,b),ac⟩,sl,pn⟩ :: l) ts s h q s0 = guardD ((s.keep sl).get t) b i sl pn ac cx d l ts (s.keep sl) s h q s0 := by
 simp only [evD,goD,wantedA,guardD]
 generalize (s.keep sl).get t = u
 cases u with
 | bool c =>
  cases hcb : c == b with
  | true => simp only [hcb,cond_true]
  | false => simp [hcb,List.append_assoc]
 | tuple vs =>
  obtain ⟨l'⟩ := vs
  cases l' with
  | nil => simp [List.append_assoc]
  | cons _ _ => rfl
 | _ => rfl
@[simp] theorem nextD_some {h' : H} : nextD (some (v,h')) cx d l ts e s h q s0 = evD cx l (ts ++ [⟨e,h,true,v⟩]) (setD s d v) h' q s0 := nr rfl
@[simp] theorem nextCD_some {h' : H} {pn : Bool} : nextCD (some (v,h')) pn cx d l ts e s h q s0 = bif isPan v then (bif pn then q.pan cx (ts ++ ⟨e,h,true,v⟩ :: blanks h' l) s0 h' v else none) else evD cx l (ts ++ [⟨e,h,true,v⟩]) (setD s d v) h' q s0 := nr rfl
section
variable {i : Nat} {sl : List Nat} {pn : Bool} {ac : AAct}
@[simp] theorem guardD_tt : guardD (.bool true) true i sl pn ac cx d l ts e s h q s0 = evD cx (⟨i,⟨d,none,ac⟩,sl,pn⟩ :: l) ts s h q s0 := nr rfl
@[simp] theorem guardD_ff : guardD (.bool false) false i sl pn ac cx d l ts e s h q s0 = evD cx (⟨i,⟨d,none,ac⟩,sl,pn⟩ :: l) ts s h q s0 := nr rfl
@[simp] theorem guardD_tf : guardD (.bool true) false i sl pn ac cx d l ts e s h q s0 = evD cx l (ts ++ [⟨e,h,false,unset⟩]) (setD s d unset) h q s0 := nr rfl
@[simp] theorem guardD_ft : guardD (.bool false) true i sl pn ac cx d l ts e s h q s0 = evD cx l (ts ++ [⟨e,h,false,unset⟩]) (setD s d unset) h q s0 := nr rfl
@[simp] theorem guardD_un {b : Bool} : guardD unset b i sl pn ac cx d l ts e s h q s0 = evD cx l (ts ++ [⟨e,h,false,unset⟩]) (setD s d unset) h q s0 := nr rfl
end
theorem Ans.nextCD {x : Option (Value × H)} {Q R : Value → H → Prop} {pn : Bool} (a : Ans x Q) (hk : ∀ v h',Q v h' → Ans (bif isPan v then (bif pn then q.pan cx (ts ++ ⟨e,h,true,v⟩ :: blanks h' l) s0 h' v else none) else evD cx l (ts ++ [⟨e,h,true,v⟩]) (setD s d v) h' q s0) R) : Ans (nextCD x pn cx d l ts e s h q s0) R := by
 obtain ⟨v,h,rfl,q⟩ := a;exact hk v h q
@[simp] theorem evAct_op {o : AOp} : evAct cf (.op o) s h = evOp o s h := nr rfl
@[simp] theorem go_none {ops : List DOp} : DK.go cx ⟨ops,[],keep,kn,ds⟩ ts s h = kn (s.keep keep) h ds := by simp [DK.go,chks]
@[simp] theorem pan_none {ops : List DOp} : DK.pan cx ⟨ops,[],keep,kn,ds⟩ ts s0 h v = cx.p v (rest s0 ops) h ds := by simp [DK.pan,chks]
def slen (t : ByteArray) : Nat := t.size
@[simp high] theorem slen_eq (t : ByteArray) : t.size = slen t := rfl
@[simp] theorem bytesOf_len (t : ByteArray) : (bytesOf t).length = slen t := by
 simp only [bytesOf,List.length_map,Array.length_toList];rfl
def hget (h : H) (b : Nat) : Option Blk := h[b]?
@[simp high] theorem hget_eq (h : H) (b : Nat) : h[b]? = hget h b := rfl
@[simp] theorem kill_nil (h : H) : kill h [] = h := rfl
@[simp] theorem newRow_size {h : H} {cs : List Value} {es : Nat} {an : List Nat} : (newRow h cs es an).size = h.size + 1 := by simp [newRow]
@[simp] theorem newRow_old {h : H} {cs : List Value} {es b : Nat} {an : List Nat} (hb : b < h.size) : hget (newRow h cs es an) b = hget h b := by
 show (h.push _)[b]? = h[b]?
 rw [Array.getElem?_push,if_neg (Nat.ne_of_lt hb)]
@[simp] theorem newRow_new {h : H} {cs : List Value} {es b : Nat} {an : List Nat} (hb : b = h.size) : hget (newRow h cs es an) b = some (.cells cs es true an) := by
 show (h.push _)[b]? = _
 rw [hb,Array.getElem?_push,if_pos rfl]
@[simp] theorem push_old {h : H} {b : Nat} {x : Blk} (hb : b < h.size) : hget (h.push x) b = hget h b := by
 show (h.push _)[b]? = h[b]?
 rw [Array.getElem?_push,if_neg (Nat.ne_of_lt hb)]
@[simp] theorem push_new {h : H} {b : Nat} {x : Blk} (hb : b = h.size) : hget (h.push x) b = some x := by
 show (h.push _)[b]? = _
 rw [hb,Array.getElem?_push,if_pos rfl]
@[simp] theorem set_self {h : H} {b c : Nat} {x : Blk} (hb : c = b) (hc : b < h.size) : hget (h.setIfInBounds b x) c = some x := by
 show (h.setIfInBounds b x)[c]? = _
 subst hb;rw [Array.getElem?_setIfInBounds_self_of_lt hc]
@[simp] theorem set_other {h : H} {b c : Nat} {x : Blk} (hb : ¬ b = c) : hget (h.setIfInBounds b x) c = hget h c := Array.getElem?_setIfInBounds_ne hb
@[simp] theorem add_1 (n : Nat) : n + 1 + 1 = n + 2 := rfl
@[simp] theorem add_2 (n : Nat) : n + 2 + 1 = n + 3 := rfl
@[simp] theorem add_3 (n : Nat) : n + 3 + 1 = n + 4 := rfl
@[simp] theorem add_4 (n : Nat) : n + 4 + 1 = n + 5 := rfl
@[simp] theorem add_5 (n : Nat) : n + 5 + 1 = n + 6 := rfl
@[simp] theorem add_6 (n : Nat) : n + 6 + 1 = n + 7 := rfl
@[simp] theorem add_7 (n : Nat) : n + 7 + 1 = n + 8 := rfl
@[simp] theorem add_8 (n : Nat) : n + 8 + 1 = n + 9 := rfl
@[simp] theorem add_9 (n : Nat) : n + 9 + 1 = n + 10 := rfl
@[simp] theorem add_10 (n : Nat) : n + 10 + 1 = n + 11 := rfl
@[simp] theorem add_11 (n : Nat) : n + 11 + 1 = n + 12 := rfl
@[simp] theorem add_12 (n : Nat) : n + 12 + 1 = n + 13 := rfl
@[simp] theorem add_13 (n : Nat) : n + 13 + 1 = n + 14 := rfl
@[simp] theorem add_14 (n : Nat) : n + 14 + 1 = n + 15 := rfl
@[simp] theorem add_15 (n : Nat) : n + 15 + 1 = n + 16 := rfl
@[simp] theorem add_16 (n : Nat) : n + 16 + 1 = n + 17 := rfl
@[simp] theorem add_17 (n : Nat) : n + 17 + 1 = n + 18 := rfl
@[simp] theorem add_18 (n : Nat) : n + 18 + 1 = n + 19 := rfl
@[simp] theorem add_19 (n : Nat) : n + 19 + 1 = n + 20 := rfl
@[simp] theorem add_20 (n : Nat) : n + 20 + 1 = n + 21 := rfl
@[simp] theorem add_21 (n : Nat) : n + 21 + 1 = n + 22 := rfl
@[simp] theorem add_22 (n : Nat) : n + 22 + 1 = n + 23 := rfl
@[simp] theorem add_23 (n : Nat) : n + 23 + 1 = n + 24 := rfl
@[simp] theorem add_24 (n : Nat) : n + 24 + 1 = n + 25 := rfl
@[simp] theorem lt_self_add (n k : Nat) : n < n + k ↔ 0 < k := by omega
@[simp] theorem self_ne_add (n k : Nat) : n = n + k ↔ k = 0 := by omega
@[simp] theorem add_ne_self (n k : Nat) : n + k = n ↔ k = 0 := by omega
@[simp] theorem lt_far' {a n k : Nat} (h : a < n) : (a < n + k) = True := by simp;omega
theorem lt_far {a n k : Nat} (h : a < n) : a < n + k := Nat.lt_of_lt_of_le h (Nat.le_add_right _ _)
theorem ne_far {a n k : Nat} (h : a < n) : ¬ a = n + k := fun e => by omega
theorem ne_far' {a n k : Nat} (h : a < n) : ¬ n + k = a := fun e => by omega
theorem ne_at {a n : Nat} (h : a < n) : ¬ a = n := fun e => by omega
theorem ne_at' {a n : Nat} (h : a < n) : ¬ n = a := fun e => by omega
theorem lt_of_get {h : H} {b : Nat} {x : Blk} (hb : hget h b = some x) : b < h.size := (Array.getElem?_eq_some_iff.1 (show h[b]? = _ from hb)).1
def Keeps (h h' : H) (S : Nat → Prop) : Prop := h.size ≤ h'.size ∧ ∀ b,b < h.size → ¬ S b → hget h' b = hget h b
theorem Keeps.refl (h : H) (S : Nat → Prop) : Keeps h h S := ⟨Nat.le_refl _,fun _ _ _ => rfl⟩
theorem Keeps.trans {h h1 h2 : H} {S : Nat → Prop} (a : Keeps h h1 S) (b : Keeps h1 h2 S) : Keeps h h2 S :=
 ⟨Nat.le_trans a.1 b.1,fun x hx hs => (b.2 x (Nat.lt_of_lt_of_le hx a.1) hs).trans (a.2 x hx hs)⟩
theorem Keeps.push {h h1 : H} {S : Nat → Prop} (a : Keeps h h1 S) (x : Blk) : Keeps h (h1.push x) S :=
 ⟨by have := a.1;simp;omega,fun b hb hs => (push_old (Nat.lt_of_lt_of_le hb a.1)).trans (a.2 b hb hs)⟩
theorem Keeps.row {h h1 : H} {S : Nat → Prop} (a : Keeps h h1 S) (cs : List Value) (es : Nat) (an : List Nat) : Keeps h (newRow h1 cs es an) S := a.push _
theorem Keeps.set {h h1 : H} {S : Nat → Prop} (a : Keeps h h1 S) {b : Nat} (hb : b < h.size → S b) (x : Blk) : Keeps h (h1.setIfInBounds b x) S :=
 ⟨by have := a.1;simpa using this,fun c hc hs => (set_other (fun e => hs (by subst e;exact hb hc))).trans (a.2 c hc hs)⟩
theorem Keeps.set_new {h h1 : H} {S : Nat → Prop} {b : Nat} (a : Keeps h h1 S) (hb : h.size ≤ b) (x : Blk) : Keeps h (h1.setIfInBounds b x) S := a.set (fun q => absurd q (Nat.not_lt.2 hb)) x
theorem Keeps.set_may {h h1 : H} {S : Nat → Prop} {b : Nat} (a : Keeps h h1 S) (hb : S b) (x : Blk) : Keeps h (h1.setIfInBounds b x) S := a.set (fun _ => hb) x
theorem Keeps.get {h h' : H} {S : Nat → Prop} (a : Keeps h h' S) {b : Nat} {x : Blk} (hb : hget h b = some x) (hs : ¬ S b) : hget h' b = some x := by
 rw [a.2 b (lt_of_get hb) hs];exact hb
theorem Keeps.weak {h h' : H} {S S' : Nat → Prop} (a : Keeps h h' S) (hs : ∀ b,S b → S' b) : Keeps h h' S' := ⟨a.1,fun b hb h => a.2 b hb fun q => h (hs b q)⟩
theorem Keeps.past {h h1 h2 : H} {S : Nat → Prop} (a : Keeps h h1 S) (b : Keeps h1 h2 fun x => S x ∨ h.size ≤ x) : Keeps h h2 S :=
 ⟨Nat.le_trans a.1 b.1,fun x hx hs => (b.2 x (Nat.lt_of_lt_of_le hx a.1) (fun q => q.elim hs (fun q => Nat.lt_irrefl _ (Nat.lt_of_lt_of_le hx q)))).trans (a.2 x hx hs)⟩
theorem wrap_in {n : Int} (h1 : -9223372036854775808 ≤ n) (h2 : n ≤ 9223372036854775807) : IntKind.i64.wrap n = n := IntWalk.i64_in n ⟨h1,h2⟩
end Go.Ev
namespace Go.Ev
theorem zS : (∀ {h : H} {cs : List Value} {es : Nat} {an : List Nat}, (newRow h cs es an).size = h.size + 1) ∧ (∀ {h : H} {i : Nat} {x : Blk}, (h.setIfInBounds i x).size = h.size) ∧ (∀ {h : H} {x : Blk}, (h.push x).size = h.size + 1) := ⟨newRow_size, Array.size_setIfInBounds, Array.size_push ..⟩
end Go.Ev
namespace Go.Ev
def evP (cx : Cx) (ops : List AOper) (s : Env) (h : H) (kn : K) (ds : Ds) : Res := evOps cx ops s h ds fun s' h' => kn s' h' ds
def nextP (x : Option (Value × H)) (cx : Cx) (d : Option Nat) (os : List AOper) (s : Env) (kn : K) (ds : Ds) : Res := match x with
 | some (v,h') => evP cx os (setD s d v) h' kn ds
 | none => none
def deferK (f : Operand) (args : List Operand) (keep : List Nat) (kn : K) : K := fun s h ds => match evDefer s f args with
 | some d => kn (s.keep keep) h (d :: ds)
 | none => none
section
variable {cx : Cx} {F : Nat} {s : Env} {h : H} {kn kr : K} {ke : Nat → K} {ds : Ds} {keep : List Nat} {d : Option Nat} {os pre : List AOper} {v : Value} {f : Operand} {args : List Operand}
@[simp] theorem evC_defer : evC F cx (.defer pre f args keep) kn ke kr s h ds = evP cx pre s h (deferK f args keep kn) ds := nr rfl
@[simp] theorem evP_nil : evP cx [] s h kn ds = kn s h ds := nr rfl
@[simp] theorem evP_op {o : AOp} : evP cx (⟨d,none,.op o⟩ :: os) s h kn ds = nextP (evOp o s h) cx d os s kn ds := by
 simp only [evP,evOps,evOper,evAct,nextP,panAct,cond_false]
 cases evOp o s h <;> rfl
@[simp] theorem nextP_some {h' : H} : nextP (some (v,h')) cx d os s kn ds = evP cx os (setD s d v) h' kn ds := nr rfl
@[simp] theorem deferK_fn {g : FuncId} : deferK (.func g) args keep kn s h ds = kn (s.keep keep) h (⟨g,args.map (aeval s)⟩ :: ds) := by
 simp [deferK,evDefer,aeval]
end
end Go.Ev
namespace Go.Ev
def Kept (h h' : H) (L : List Nat) : Prop := h.size ≤ h'.size ∧ ∀ b,b < h.size → b ∉ L → hget h' b = hget h b
theorem Kept.refl (h : H) (L : List Nat) : Kept h h L := ⟨Nat.le_refl _,fun _ _ _ => rfl⟩
theorem Kept.trans {h h1 h2 : H} {L : List Nat} (a : Kept h h1 L) (b : Kept h1 h2 L) : Kept h h2 L :=
 ⟨Nat.le_trans a.1 b.1,fun x hx hs => (b.2 x (Nat.lt_of_lt_of_le hx a.1) hs).trans (a.2 x hx hs)⟩
theorem Kept.get {h h' : H} {L : List Nat} (a : Kept h h' L) {b : Nat} (hb : b < h.size) (hs : b ∉ L) : hget h' b = hget h b := a.2 b hb hs
theorem Kept.weak {h h' : H} {L M : List Nat} (a : Kept h h' L) (hs : ∀ b ∈ L,b ∈ M) : Kept h h' M := ⟨a.1,fun b hb h => a.2 b hb fun q => h (hs b q)⟩
theorem Kept.of_nil {h h' : H} {L : List Nat} (a : Kept h h' []) : Kept h h' L := a.weak nofun
theorem loop_rule {cf : Cx} {F0 : Nat} {live : List Nat} {c : ACode} {ke : Nat → K} {kr : K} {ds : Ds} {Q : Value → H → Prop} (I : Nat → Env → H → Prop)
  (step : ∀ m s h again,I m s h → (∀ m' s' h',m' < m → I m' s' h' → Ans (again s' h' ds) Q) → Ans (evC F0 cf c (keepK live again) ke kr s h ds) Q) :
  ∀ fuel m s h,m < fuel → I m s h → Ans (loopK F0 cf live c ke kr fuel s h ds) Q := by
 intro fuel
 induction fuel with
 | zero => intro m s h hm;omega
 | succ n ih =>
  intro m s h hm hi
  rw [loopK_succ]
  exact step m s h _ hi fun m' s' h' hlt hi' => ih m' s' h' (by omega) hi'
theorem wrap_id {n : Int} (h1 : -9223372036854775808 ≤ n) (h2 : n < 9223372036854775808) : IntKind.i64.wrap n = n := wrap_in h1 (by omega)
theorem eqT {a b : Int} (h : a = b) : (a == b) = true := by simpa using h
theorem eqF {a b : Int} (h : ¬ a = b) : (a == b) = false := by simpa using h
theorem neT {a b : Int} (h : ¬ a = b) : (a != b) = true := by simpa using h
theorem neF {a b : Int} (h : a = b) : (a != b) = false := by simpa using h
theorem ltT {a b : Int} (h : a < b) : (a < b) = True := by simpa using h
theorem ltF {a b : Int} (h : ¬ a < b) : (a < b) = False := by simpa using h
theorem leT {a b : Int} (h : a ≤ b) : (a ≤ b) = True := by simpa using h
theorem leF {a b : Int} (h : ¬ a ≤ b) : (a ≤ b) = False := by simpa using h
theorem nltT {a b : Nat} (h : a < b) : (a < b) = True := by simpa using h
theorem nltF {a b : Nat} (h : ¬ a < b) : (a < b) = False := by simpa using h
theorem nleT {a b : Nat} (h : a ≤ b) : (a ≤ b) = True := by simpa using h
theorem nleF {a b : Nat} (h : ¬ a ≤ b) : (a ≤ b) = False := by simpa using h
theorem nneT {a b : Nat} (h : a = b) : (a = b) = True := by simpa using h
theorem nneF {a b : Nat} (h : ¬ a = b) : (a = b) = False := by simpa using h
@[simp] theorem set_push {h : H} {x y : Blk} {b : Nat} (hb : b = h.size) : Array.setIfInBounds (h.push x) b y = h.push y := by
 subst hb
 apply Array.ext
 ·simp
 ·intro i h1 h2
  simp only [Array.size_setIfInBounds,Array.size_push] at h1
  rw [Array.getElem_setIfInBounds]
  ·by_cases e : h.size = i
   ·subst e;simp
   ·rw [if_neg e,Array.getElem_push_lt (by omega),Array.getElem_push_lt (by omega)]
  ·simpa using h1
@[simp] theorem set_row {h : H} {cs : List Value} {es b : Nat} {an : List Nat} {y : Blk} (hb : b = h.size) : Array.setIfInBounds (newRow h cs es an) b y = h.push y := set_push hb
theorem push_row {h : H} {cs : List Value} {es : Nat} {an : List Nat} : h.push (.cells cs es true an) = newRow h cs es an := rfl
attribute [simp] push_row
def panE (cx : Cx) (ops : List DOp) (ds : Ds) (s0 : Env) (h : H) (v : Value) : Res := cx.p v (rest s0 ops) h ds
def evE (cx : Cx) (l : List DOp) (s : Env) (h : H) (kn : K) (keep : List Nat) (ds : Ds) (ops : List DOp) (s0 : Env) : Res := goD cx.c l s h fun _ s' h' x => match x with
 | none => kn (s'.keep keep) h' ds
 | some v => panE cx ops ds s0 h' v
def nextE (x : Option (Value × H)) (cx : Cx) (d : Option Nat) (l : List DOp) (s : Env) (kn : K) (keep : List Nat) (ds : Ds) (ops : List DOp) (s0 : Env) : Res := match x with
 | some (v,h') => evE cx l (setD s d v) h' kn keep ds ops s0
 | none => none
def nextCE (x : Option (Value × H)) (pn : Bool) (cx : Cx) (d : Option Nat) (l : List DOp) (s : Env) (kn : K) (keep : List Nat) (ds : Ds) (ops : List DOp) (s0 : Env) : Res := match x with
 | some (v,h') => bif isPan v then (bif pn then panE cx ops ds s0 h' v else none) else evE cx l (setD s d v) h' kn keep ds ops s0
 | none => none
def guardE (v : Value) (b : Bool) (i : Nat) (sl : List Nat) (pn : Bool) (ac : AAct) (cx : Cx) (d : Option Nat) (l : List DOp) (s : Env) (h : H) (kn : K) (keep : List Nat) (ds : Ds) (ops : List DOp) (s0 : Env) : Res := match v with
 | .bool c => bif c == b then evE cx (⟨i,⟨d,none,ac⟩,sl,pn⟩ :: l) s h kn keep ds ops s0 else evE cx l (setD s d unset) h kn keep ds ops s0
 | .tuple ⟨[]⟩ => evE cx l (setD s d unset) h kn keep ds ops s0
 | _ => none
section
variable {cx : Cx} {F : Nat} {s s0 : Env} {h : H} {kn kr : K} {ke : Nat → K} {ds : Ds} {keep : List Nat} {d : Option Nat} {v : Value} {l ops : List DOp}
@[simp high] theorem evC_regionE {ops : List DOp} : evC F cx (.regionD ops [] keep) kn ke kr s h ds = evE cx ops s h kn keep ds ops s := by
 show evRegionD cx ops [] s h ds _ = _
 unfold evE evRegionD
 rw [goD_eq]
 cases trace cx.c ops s h with
 | none => rfl
 | some p =>
  obtain ⟨a,b,c,x⟩ := p
  cases x with
  | none => simp [chks]
  | some v => simp [chks,panE]
@[simp] theorem evE_nil : evE cx [] s h kn keep ds ops s0 = kn (s.keep keep) h ds := nr rfl
@[simp] theorem evE_op {i : Nat} {o : AOp} {sl : List Nat} {pn : Bool} : evE cx (⟨i,⟨d,none,.op o⟩,sl,pn⟩ :: l) s h kn keep ds ops s0 = nextE (evOp o (s.keep sl) h) cx d l s kn keep ds ops s0 := by
 simp only [evE,goD,wantedA,evAct,nextE,panAct,cond_false]
 all_goals
  cases evOp o (s.keep sl) h with
  | none => rfl
  | some p => rfl
@[simp] theorem evE_call {i : Nat} {f : Operand} {args : List Operand} {sl : List Nat} {pn : Bool} : evE cx (⟨i,⟨d,none,.call f args⟩,sl,pn⟩ :: l) s h kn keep ds ops s0 = nextCE (callV cx.c (aeval (s.keep sl) f) (args.map (aeval (s.keep sl))) h) pn cx d l s kn keep ds ops s0 := by
 have e : evAct cx.c (.call f args) (s.keep sl) h = callV cx.c (aeval (s.keep sl) f) (args.map (aeval (s.keep sl))) h := by
  simp only [evAct,callV]
  split <;> (rename_i hf;split <;> simp_all)
 rw [← e]
 simp only [evE,goD,wantedA,nextCE,panAct]
 all_goals
  cases evAct cx.c (.call f args) (s.keep sl) h with
  | none => rfl
  | some p =>
   cases hp : isPan p.1 with
   | false => simp only [hp,cond_false]
   | true => cases pn <;> simp only [hp,cond_true,cond_false]
@[simp] theorem evE_guard {i t : Nat} {b : Bool} {ac : AAct} {sl : List Nat} {pn : Bool} : evE cx (⟨i,⟨d,some (t,b),ac⟩,sl,pn⟩ :: l) s h kn keep ds ops s0 = guardE ((s.keep sl).get t) b i sl pn ac cx d l s h kn keep ds ops s0 := by
 simp only [evE,goD,wantedA,guardE]
 generalize (s.keep sl).get t = u
 cases u with
 | bool c =>
  cases hcb : c == b with
  | true => simp only [hcb,cond_true]
  | false => simp only [hcb,cond_false]
 | tuple vs =>
  obtain ⟨l'⟩ := vs
  cases l' with
  | nil => rfl
  | cons _ _ => rfl
 | _ => rfl
@[simp] theorem nextE_some {h' : H} : nextE (some (v,h')) cx d l s kn keep ds ops s0 = evE cx l (setD s d v) h' kn keep ds ops s0 := nr rfl
@[simp] theorem nextCE_some {h' : H} {pn : Bool} : nextCE (some (v,h')) pn cx d l s kn keep ds ops s0 = bif isPan v then (bif pn then panE cx ops ds s0 h' v else none) else evE cx l (setD s d v) h' kn keep ds ops s0 := nr rfl
@[simp] theorem panE_eq : panE cx ops ds s0 h v = cx.p v (rest s0 ops) h ds := nr rfl
section
variable {i : Nat} {sl : List Nat} {pn : Bool} {ac : AAct}
@[simp] theorem guardE_tt : guardE (.bool true) true i sl pn ac cx d l s h kn keep ds ops s0 = evE cx (⟨i,⟨d,none,ac⟩,sl,pn⟩ :: l) s h kn keep ds ops s0 := nr rfl
@[simp] theorem guardE_ff : guardE (.bool false) false i sl pn ac cx d l s h kn keep ds ops s0 = evE cx (⟨i,⟨d,none,ac⟩,sl,pn⟩ :: l) s h kn keep ds ops s0 := nr rfl
@[simp] theorem guardE_tf : guardE (.bool true) false i sl pn ac cx d l s h kn keep ds ops s0 = evE cx l (setD s d unset) h kn keep ds ops s0 := nr rfl
@[simp] theorem guardE_ft : guardE (.bool false) true i sl pn ac cx d l s h kn keep ds ops s0 = evE cx l (setD s d unset) h kn keep ds ops s0 := nr rfl
@[simp] theorem guardE_un {b : Bool} : guardE unset b i sl pn ac cx d l s h kn keep ds ops s0 = evE cx l (setD s d unset) h kn keep ds ops s0 := nr rfl
end
theorem Ans.nextCE {x : Option (Value × H)} {Q R : Value → H → Prop} {pn : Bool} (a : Ans x Q) (hk : ∀ v h',Q v h' → Ans (bif isPan v then (bif pn then panE cx ops ds s0 h' v else none) else evE cx l (setD s d v) h' kn keep ds ops s0) R) : Ans (Ev.nextCE x pn cx d l s kn keep ds ops s0) R := by
 obtain ⟨v,h,rfl,q⟩ := a;exact hk v h q
theorem evAct_call {cf : CF} {f : Operand} {args : List Operand} : evAct cf (.call f args) s h = callV cf (aeval s f) (args.map (aeval s)) h := by
 simp only [evAct,callV]
 split <;> (rename_i hf;split <;> simp_all)
attribute [simp] evAct_call
end
def appV (src : Option (Nat × List Value)) (h : H) (es bytes : Nat) (d : Value) : Option (Value × H) := match src with
 | some (n,new) => if new.all oneCell = true then appendTo h es bytes d n new else none
 | none => none
@[simp ↓ high] theorem evOp_append {str : Bool} {es bytes : Nat} {d x : Operand} {s : Env} {h : H} : evOp (.append str es bytes d x) s h = if isText (aeval s x) = str then appV (srcOf h es (aeval s x)) h es bytes (aeval s d) else none := nr rfl
@[simp] theorem appV_some {n : Nat} {new : List Value} {h : H} {es bytes : Nat} {d : Value} : appV (some (n,new)) h es bytes d = if new.all oneCell = true then appendTo h es bytes d n new else none := nr rfl
def chkA (cf : CF) (d : Option DOp) (t : Option TR) (ts : List TR) (h1 : H) (ps : List Nat) : Bool := match d,t with
 | some d,some t => ps.all fun p => chk1 cf d t (hAt ts h1 p)
 | _,_ => false
def chkV (x : Option (Value × H)) (w : Value) : Bool := match x with
 | some (v,_) => sameV v w
 | none => false
def hOf (x : Option TR) (h1 : H) : H := match x with
 | some t => t.hin
 | none => h1
section
variable {cx : Cx} {cf : CF} {ops : List DOp} {ts : List TR} {h h1 : H} {wins : List (Nat × List Nat)} {keep : List Nat} {kn : K} {ds : Ds} {s e : Env}
theorem dk_go : DK.go cx ⟨ops,wins,keep,kn,ds⟩ ts s h = if chks cx.c ops ts h wins = true then kn (s.keep keep) h ds else none := nr rfl
theorem chks_nil : chks cf ops ts h1 [] = true := nr rfl
theorem chks_cons {x : Nat} {ps : List Nat} {r : List (Nat × List Nat)} : chks cf ops ts h1 ((x,ps) :: r) = (chkA cf ops[x]? ts[x]? ts h1 ps && chks cf ops ts h1 r) := by
 simp only [chks,chkA]
 rcases ops[x]? with _ | d <;> rcases ts[x]? with _ | t <;> rfl
theorem chkA_nil {d : DOp} {t : TR} : chkA cf (some d) (some t) ts h1 [] = true := nr rfl
theorem chkA_cons {d : DOp} {t : TR} {p : Nat} {ps : List Nat} : chkA cf (some d) (some t) ts h1 (p :: ps) = (chk1 cf d t (hAt ts h1 p) && chkA cf (some d) (some t) ts h1 ps) := nr rfl
theorem chk1_no {d : DOp} {v : Value} {h0 : H} : chk1 cf d ⟨e,h0,false,v⟩ h = true := nr rfl
theorem chk1_yes {i : Nat} {pn : Bool} {dst : Option Nat} {g : Option (Nat × Bool)} {ac : AAct} {sl : List Nat} {v : Value} {h0 : H} : chk1 cf ⟨i,⟨dst,g,ac⟩,sl,pn⟩ ⟨e,h0,true,v⟩ h = chkV (evAct cf ac e h) v := nr rfl
theorem chkV_some {v w : Value} : chkV (some (v,h)) w = sameV v w := nr rfl
theorem hAt_eq {k : Nat} : hAt ts h1 k = hOf ts[k]? h1 := nr rfl
theorem hOf_some {h0 : H} {b : Bool} {v : Value} : hOf (some ⟨e,h0,b,v⟩) h1 = h0 := nr rfl
theorem hOf_none : hOf none h1 = h1 := nr rfl
end
def lenV : Value → Option Value
 | .slice none 0 0 => some (.int .i64 0)
 | .slice (some _) n _ => some (.int .i64 n)
 | _ => none
@[simp] theorem lenV_nil : lenV (.slice none 0 0) = some (.int .i64 0) := nr rfl
@[simp] theorem lenV_some {a : Addr} {n c : Nat} : lenV (.slice (some a) n c) = some (.int .i64 n) := nr rfl
@[simp ↓ high] theorem evOp_lenSlice {x : Operand} {s : Env} {h : H} : evOp (.lenSlice x) s h = (lenV (aeval s x)).map fun v => (v,h) := by
 show (match aeval s x with
  | .slice none 0 0 => some (Value.int .i64 0,h)
  | .slice (some _) n _ => some (.int .i64 n,h)
  | _ => none) = _
 unfold lenV
 split <;> rfl
theorem fn_id {α : Sort _} {β : Sort _} (f : α → β) {a b : α} (h : a = b) : f a = f b := by rw [h]
end Go.Ev
namespace Go.Ev
theorem bB : (∀ {a b : Int}, a = b → (a == b) = true) ∧ (∀ {a b : Int}, ¬ a = b → (a == b) = false) ∧ (∀ {a b : Int}, ¬ a = b → (a != b) = true) ∧ (∀ {a b : Int}, a = b → (a != b) = false) ∧ (∀ {a b : Int}, a < b → (a < b) = True) ∧ (∀ {a b : Int}, ¬ a < b → (a < b) = False) ∧ (∀ {a b : Int}, a ≤ b → (a ≤ b) = True) ∧ (∀ {a b : Int}, ¬ a ≤ b → (a ≤ b) = False) ∧ (∀ {a b : Nat}, a < b → (a < b) = True) ∧ (∀ {a b : Nat}, ¬ a < b → (a < b) = False) ∧ (∀ {a b : Nat}, a ≤ b → (a ≤ b) = True) ∧ (∀ {a b : Nat}, ¬ a ≤ b → (a ≤ b) = False) ∧ (∀ {a b : Nat}, a = b → (a = b) = True) ∧ (∀ {a b : Nat}, ¬ a = b → (a = b) = False) ∧ (∀ {α : Type} {a : α} {l : List α}, (a :: l)[0]? = some a) ∧ (∀ {α : Type} {a : α} {l : List α} {i : Nat}, (a :: l)[i + 1]? = l[i]?) := ⟨eqT, eqF, neT, neF, ltT, ltF, leT, leF, nltT, nltF, nleT, nleF, nneT, nneF, rfl, rfl⟩
end Go.Ev
namespace Go.Ev
inductive Ty where
 | int (k : IntKind)
 | bool
 | str
 | slice (e : Ty)
 | struct (fs : List Ty)
mutual
def Ty.size : Ty → Nat
 | .int _ => 1
 | .bool => 1
 | .str => 1
 | .slice _ => 1
 | .struct fs => Ty.sizes fs
def Ty.sizes : List Ty → Nat
 | [] => 0
 | f :: fs => f.size + Ty.sizes fs
end
mutual
def tyOk (P : Program) : Ty → TypeId → Bool
 | .int k,t => match P.underlying t with
  | some (.int k') => k == k'
  | _ => false
 | .bool,t => match P.underlying t with
  | some .bool => true
  | _ => false
 | .str,t => match P.underlying t with
  | some .string => true
  | _ => false
 | .slice e,t => match P.underlying t with
  | some (.slice el) => P.cellsOf el == e.size && decide (0 < e.size) && tyOk P e el
  | _ => false
 | .struct fs,t => match P.underlying t with
  | some (.struct fields) => P.cellsOf t == Ty.sizes fs && fieldsOk P fs fields.toList 0
  | _ => false
def fieldsOk (P : Program) : List Ty → List Field → Nat → Bool
 | [],[],_ => true
 | y :: ys,f :: fs,o => f.offset == o && P.cellsOf f.type == y.size && tyOk P y f.type && fieldsOk P ys fs (o + y.size)
 | _,_,_ => false
end
mutual
def CellsT (h : H) : Ty → List Value → Prop
 | .int k,cs => ∃ n,cs = [.int k n] ∧ (Lit.int k n).wf = true
 | .bool,cs => ∃ b,cs = [.bool b]
 | .str,cs => ∃ s : ByteArray,cs = [.string s] ∧ s.size ≤ maxLen
 | .slice e,cs => cs = [.slice none 0 0] ∨ cs = [.slice (some ⟨0,0,some 0⟩) 0 0] ∨
   ∃ b o n c bs,cs = [.slice (some ⟨b,o,none⟩) n c] ∧ n ≤ c ∧ c ≤ maxLen ∧ b < h.size ∧ hget h b = some (.cells bs 0 false []) ∧ ∀ i,i < n → o + i * e.size + e.size ≤ bs.length ∧ CellsT h e ((bs.drop (o + i * e.size)).take e.size)
 | .struct fs,cs => StructT h fs cs
def StructT (h : H) : List Ty → List Value → Prop
 | [],cs => cs = []
 | f :: fs,cs => f.size ≤ cs.length ∧ CellsT h f (cs.take f.size) ∧ StructT h fs (cs.drop f.size)
end
theorem cells_row {w : World} {base : Nat} {a : Addr} {n : Nat} {cs : List Value} (h : w.cells? base a n = some cs) (hn : 0 < n) :
  ∃ (arr : Array Value) (T : TypeId) (fr : Nat × Nat),w.heap[a.block]? = some (.cells arr T fr) ∧ a.spot = none ∧ a.off + n ≤ arr.size ∧ cs = (arr.toList.drop a.off).take n := by
 obtain ⟨_,hl,hi⟩ := World.cells?_some h
 have h0 := hi 0 hn
 have ha : a.add 0 = a := by simp [Addr.add]
 rw [ha] at h0
 have hs0 : ∃ v,cs[0]? = some v := ⟨cs[0]'(by omega),List.getElem?_eq_getElem (by omega)⟩
 obtain ⟨v0,hv0⟩ := hs0
 rw [hv0] at h0
 unfold World.cell? at h0
 split at h0
 ·rename_i c T fr hc
  have hsp : a.spot = none := by
   cases hsp : a.spot with
   | none => rfl
   | some q => rw [hsp] at h0;simp at h0
  have hcell : ∀ i,i < n → c[a.off + i]? = cs[i]? := by
   intro i hi'
   rw [← hi i hi']
   unfold World.cell?
   by_cases hz : i = 0
   ·subst hz;rw [ha,hc];simp [hsp]
   ·simp [Addr.add,hz,hc]
  have hsz : a.off + n ≤ c.size := by
   have hlast : cs[n - 1]? = some (cs[n - 1]'(by omega)) := List.getElem?_eq_getElem (by omega)
   have := hcell (n - 1) (by omega)
   rw [hlast] at this
   have := (Array.getElem?_eq_some_iff.1 this).1
   omega
  refine ⟨c,T,fr,hc,hsp,hsz,?_⟩
  apply List.ext_getElem?
  intro i
  by_cases hi' : i < n
  ·rw [← hcell i hi',List.getElem?_take,if_pos hi',List.getElem?_drop,Array.getElem?_toList]
  ·rw [List.getElem?_eq_none (by omega),List.getElem?_take,if_neg hi']
 ·cases h0
section
variable {HT : Type} {enc : TypeId × Value → HT} {P : Program} {W : World} {base : Nat} {held : Bool}
mutual
theorem open_cells : ∀ (y : Ty) (t : TypeId),tyOk P y t = true → ∀ {fuel : Nat} {cs : List Value} {x : DataW HT × List MemPlace},DataW.trod enc P W base (fun _ => true) held fuel t cs = some x →
  CellsT (absH W) y (cs.map (absV W.heap.size)) ∧ cs.length = y.size
 | .int k,t,hy,fuel,cs,x,h => by
  unfold tyOk at hy
  split at hy
  ·rename_i k' ht
   have hk : k = k' := by simpa using hy
   subst hk
   obtain ⟨n,rfl,_,hw⟩ := DataW.trod_int ht h
   exact ⟨by simp only [CellsT];exact ⟨n,rfl,hw⟩,rfl⟩
  ·cases hy
 | .bool,t,hy,fuel,cs,x,h => by
  unfold tyOk at hy
  split at hy
  ·rename_i ht
   obtain ⟨b,rfl,_⟩ := DataW.trod_bool ht h
   exact ⟨by simp only [CellsT];exact ⟨b,rfl⟩,rfl⟩
  ·cases hy
 | .str,t,hy,fuel,cs,x,h => by
  unfold tyOk at hy
  split at hy
  ·rename_i ht
   obtain ⟨s,rfl,_,hw⟩ := DataW.trod_string ht h
   exact ⟨by simp only [CellsT];exact ⟨s,rfl,hw⟩,rfl⟩
  ·cases hy
 | .slice e,t,hy,fuel,cs,x,h => by
  unfold tyOk at hy
  split at hy
  ·rename_i el ht
   simp only [Bool.and_eq_true,beq_iff_eq,decide_eq_true_eq] at hy
   obtain ⟨⟨hsz,hpos⟩,hel⟩ := hy
   rcases DataW.trod_slice ht h with ⟨rfl,_⟩ | ⟨a,len,cap,elems,rest,n,_,rfl,_,_,hlc,hcm,hlen,hE,hR,_⟩
   ·exact ⟨by simp only [CellsT];exact .inl rfl,rfl⟩
   ·refine ⟨?_,rfl⟩
    simp only [CellsT]
    by_cases hc0 : cap = 0
    ·subst hc0
     have : len = 0 := by omega
     subst this
     exact .inr (.inl rfl)
    ·rw [hsz] at hE hR
     obtain ⟨hrl,hR⟩ := hR rfl
     have hrow : ∀ i,i < cap → ∃ row,W.cells? base (a.add (i * e.size)) e.size = some row := by
      intro i hi
      by_cases hil : i < len
      ·have := hE i hil
       obtain ⟨q,hq⟩ : ∃ q,elems[i]? = some q := ⟨_,List.getElem?_eq_getElem (by omega)⟩
       rw [hq] at this
       obtain ⟨row,h1,_⟩ := Option.bind_eq_some_iff.1 this
       exact ⟨row,h1⟩
      ·have := hR (i - len) (by omega)
       obtain ⟨q,hq⟩ : ∃ q,rest[i - len]? = some q := ⟨_,List.getElem?_eq_getElem (by omega)⟩
       rw [hq,show len + (i - len) = i by omega] at this
       obtain ⟨row,h1,_⟩ := Option.bind_eq_some_iff.1 this
       exact ⟨row,h1⟩
     obtain ⟨row0,h0⟩ := hrow 0 (by omega)
     rw [Nat.zero_mul,show a.add 0 = a from by simp [Addr.add]] at h0
     obtain ⟨arr,T,fr,hh,hsp,_,_⟩ := cells_row h0 hpos
     obtain ⟨b,o,sp⟩ := a
     simp only at hsp hh
     subst hsp
     have hbl : b < W.heap.size := (Array.getElem?_eq_some_iff.1 hh).1
     refine .inr (.inr ⟨b,o,len,cap,arr.toList.map (absV W.heap.size),?_,hlc,hcm,by rw [absH_size];exact hbl,?_,?_⟩)
     ·simp only [List.map_cons,List.map_nil,absV]
      by_cases hl0 : len = 0
      ·subst hl0
       cases cap with
       | zero => exact absurd rfl hc0
       | succ cap => simp [absV,hbl]
      ·cases len with
       | zero => exact absurd rfl hl0
       | succ len => simp [absV,hbl,hlc]
     ·show (W.heap.map (absB W.heap.size))[b]? = _
      rw [Array.getElem?_map,hh];rfl
     ·intro i hi
      obtain ⟨row,hr⟩ := hrow i (by omega)
      obtain ⟨arr',T',fr',hh',_,hsz',hrow'⟩ := cells_row hr hpos
      have hoff : ((⟨b,o,none⟩ : Addr).add (i * e.size)).off = o + i * e.size := by
       by_cases hz : i * e.size = 0
       ·simp [Addr.add,hz]
       ·simp [Addr.add,hz]
      have hblk : ((⟨b,o,none⟩ : Addr).add (i * e.size)).block = b := by
       by_cases hz : i * e.size = 0
       ·simp [Addr.add,hz]
       ·simp [Addr.add,hz]
      rw [hblk,hh] at hh'
      simp only [Option.some.injEq,Obj.cells.injEq] at hh'
      obtain ⟨rfl,_,_⟩ := hh'
      rw [hoff] at hsz' hrow'
      have hEi := hE i hi
      obtain ⟨q,hq⟩ : ∃ q,elems[i]? = some q := ⟨_,List.getElem?_eq_getElem (by omega)⟩
      rw [hq,hr] at hEi
      simp only [Option.bind_some] at hEi
      have hrec := (open_cells e el hel hEi).1
      refine ⟨by simpa using hsz',?_⟩
      rw [hrow'] at hrec
      simpa [List.map_take,List.map_drop] using hrec
  ·cases hy
 | .struct fs,t,hy,fuel,cs,x,h => by
  unfold tyOk at hy
  split at hy
  ·rename_i fields ht
   simp only [Bool.and_eq_true,beq_iff_eq] at hy
   obtain ⟨hsz,hf⟩ := hy
   obtain ⟨xs,n,_,_,hl,hlen,hi⟩ := DataW.trod_struct ht h
   rw [hsz] at hl
   refine ⟨?_,by simpa [Ty.size] using hl⟩
   simp only [CellsT]
   have := open_fields fs fields.toList 0 hf (fuel := n) (cs := cs) (by omega) (fun i f hif => by
    have hif' : fields[i]? = some f := by simpa using hif
    have := hi i f hif'
    obtain ⟨q,hq⟩ : ∃ q,xs[i]? = some q := ⟨_,List.getElem?_eq_getElem (by
     have := (Array.getElem?_eq_some_iff.1 hif').1
     omega)⟩
    rw [hq] at this
    exact ⟨q,this⟩)
   simpa using this
  ·cases hy
theorem open_fields : ∀ (ys : List Ty) (fs : List Field) (o : Nat),fieldsOk P ys fs o = true → ∀ {fuel : Nat} {cs : List Value},cs.length = o + Ty.sizes ys →
  (∀ (i : Nat) (f : Field),fs[i]? = some f → ∃ x,DataW.trod enc P W base (fun _ => true) held fuel f.type ((cs.drop f.offset).take (P.cellsOf f.type)) = some x) →
  StructT (absH W) ys ((cs.drop o).map (absV W.heap.size))
 | [],[],o,_,fuel,cs,hl,_ => by
  simp only [StructT,Ty.sizes] at hl ⊢
  simp;omega
 | [],_ :: _,_,h,_,_,_,_ => by simp [fieldsOk] at h
 | _ :: _,[],_,h,_,_,_,_ => by simp [fieldsOk] at h
 | y :: ys,f :: fs,o,h,fuel,cs,hl,hx => by
  simp only [fieldsOk,Bool.and_eq_true,beq_iff_eq] at h
  obtain ⟨⟨⟨h1,h2⟩,h3⟩,h4⟩ := h
  simp only [Ty.sizes] at hl
  obtain ⟨x,hx0⟩ := hx 0 f rfl
  rw [h1,h2] at hx0
  have g1 := (open_cells y f.type h3 hx0).1
  have g2 := open_fields ys fs (o + y.size) h4 (fuel := fuel) (cs := cs) (by omega) (fun i g hg => hx (i + 1) g (by simpa using hg))
  simp only [StructT]
  refine ⟨by simp;omega,?_,?_⟩
  ·simpa [List.map_take,List.map_drop] using g1
  ·simpa [List.map_drop,List.drop_drop,Nat.add_comm] using g2
end
mutual
theorem cellsT_plain {h : H} : ∀ (y : Ty) {cs : List Value},CellsT h y cs → cs.length = y.size ∧ ∀ x ∈ cs,oneCell x = true ∧ sameCell x x = true
 | .int k,cs,hc => by
  simp only [CellsT] at hc
  obtain ⟨n,rfl,_⟩ := hc
  simp [Ty.size,oneCell,sameCell]
 | .bool,cs,hc => by
  simp only [CellsT] at hc
  obtain ⟨n,rfl⟩ := hc
  simp [Ty.size,oneCell,sameCell]
 | .str,cs,hc => by
  simp only [CellsT] at hc
  obtain ⟨n,rfl,_⟩ := hc
  refine ⟨rfl,fun x hx => ?_⟩
  rw [List.mem_singleton] at hx
  subst hx
  exact ⟨rfl,(MapKept.bytes_beq n n).2 rfl⟩
 | .slice e,cs,hc => by
  simp only [CellsT] at hc
  rcases hc with rfl | rfl | ⟨b,o,n,c,bs,rfl,_⟩ <;> simp [Ty.size,oneCell,sameCell]
 | .struct fs,cs,hc => by
  simp only [CellsT] at hc
  have := structT_plain fs hc
  simpa [Ty.size] using this
theorem structT_plain {h : H} : ∀ (ys : List Ty) {cs : List Value},StructT h ys cs → cs.length = Ty.sizes ys ∧ ∀ x ∈ cs,oneCell x = true ∧ sameCell x x = true
 | [],cs,hc => by
  simp only [StructT] at hc
  subst hc
  simp [Ty.sizes]
 | y :: ys,cs,hc => by
  simp only [StructT] at hc
  obtain ⟨h1,h2,h3⟩ := hc
  obtain ⟨a1,a2⟩ := cellsT_plain y h2
  obtain ⟨b1,b2⟩ := structT_plain ys h3
  refine ⟨by simp [Ty.sizes] at b1 ⊢;omega,fun x hx => ?_⟩
  rw [← List.take_append_drop y.size cs] at hx
  rcases List.mem_append.1 hx with hx | hx
  ·exact a2 x hx
  ·exact b2 x hx
end
theorem sameL_refl : ∀ (l : List Value),(∀ x ∈ l,sameCell x x = true) → sameL l l = true
 | [],_ => rfl
 | x :: l,h => by
  unfold sameL
  rw [h x (by simp),sameL_refl l fun y hy => h y (by simp [hy])]
  rfl
theorem open_arg {y : Ty} {t : TypeId} (hy : tyOk P y t = true) {v : Value} {d : DataW HT} {p : List MemPlace} (h : DataW.Trod enc P W base (fun _ => true) held t v d p) : CellsT (absH W) y (v.cells.toList.map (absV W.heap.size)) := by
 obtain ⟨fuel,h⟩ := h
 exact (open_cells y t hy h).1
end
end Go.Ev
namespace Go.Ev
theorem ba_self (b : ByteArray) : (b == b) = true := (MapKept.bytes_beq b b).2 rfl
theorem ba_nself (b : ByteArray) : (b != b) = false := by
 show (!(b == b)) = false
 rw [ba_self];rfl
def cel (h : H) (b : Nat) : Option (List Value) := match hget h b with
 | some (.cells cs _ _ _) => some cs
 | _ => none
theorem cel_of {h : H} {b : Nat} {cs : List Value} {es : Nat} {lv : Bool} {an : List Nat} (e : hget h b = some (.cells cs es lv an)) : cel h b = some cs := by
 unfold cel;rw [e]
theorem cel_inv {h : H} {b : Nat} {cs : List Value} (e : cel h b = some cs) : ∃ es lv an,hget h b = some (.cells cs es lv an) := by
 unfold cel at e
 split at e
 ·rename_i h'
  cases e
  exact ⟨_,_,_,h'⟩
 ·cases e
theorem cel_lt {h : H} {b : Nat} {cs : List Value} (e : cel h b = some cs) : b < h.size := by
 obtain ⟨_,_,_,e⟩ := cel_inv e
 exact lt_of_get e
theorem cel_congr {h h' : H} {b : Nat} (e : hget h' b = hget h b) : cel h' b = cel h b := by unfold cel;rw [e]
def KeptC (h h' : H) (L : List Nat) : Prop := h.size ≤ h'.size ∧ ∀ b,b < h.size → b ∉ L → cel h' b = cel h b
theorem KeptC.refl (h : H) (L : List Nat) : KeptC h h L := ⟨Nat.le_refl _,fun _ _ _ => rfl⟩
theorem KeptC.trans {h h1 h2 : H} {L : List Nat} (a : KeptC h h1 L) (b : KeptC h1 h2 L) : KeptC h h2 L :=
 ⟨Nat.le_trans a.1 b.1,fun x hx hs => (b.2 x (Nat.lt_of_lt_of_le hx a.1) hs).trans (a.2 x hx hs)⟩
theorem KeptC.weak {h h' : H} {L M : List Nat} (a : KeptC h h' L) (hs : ∀ b ∈ L,b ∈ M) : KeptC h h' M := ⟨a.1,fun b hb h => a.2 b hb fun q => h (hs b q)⟩
theorem Kept.c {h h' : H} {L : List Nat} (a : Kept h h' L) : KeptC h h' L := ⟨a.1,fun b hb hn => cel_congr (a.2 b hb hn)⟩
section
variable {α : Type}
def SlR (ok : Nat → Prop) (w : Nat) (R : H → List Value → α → Prop) (h : H) (v : Value) (xs : List α) : Prop :=
 ((v = .slice none 0 0 ∨ v = .slice (some ⟨0,0,some 0⟩) 0 0) ∧ xs = []) ∨
 ∃ b o c cs,v = .slice (some ⟨b,o,none⟩) xs.length c ∧ xs.length ≤ c ∧ ok b ∧ cel h b = some cs ∧ ∀ (i : Nat) (x : α),xs[i]? = some x → o + i * w + w ≤ cs.length ∧ R h ((cs.drop (o + i * w)).take w) x
variable {ok ok' : Nat → Prop} {w : Nat} {R R' : H → List Value → α → Prop} {h h' : H} {v : Value} {xs : List α} {L : List Nat}
theorem SlR.len (s : SlR ok w R h v xs) : lenV v = some (.int .i64 xs.length) := by
 rcases s with ⟨rfl | rfl,rfl⟩ | ⟨b,o,c,cs,rfl,_⟩ <;> simp [lenV]
theorem SlR.one (s : SlR ok w R h v xs) : oneCell v = true := by
 rcases s with ⟨rfl | rfl,rfl⟩ | ⟨b,o,c,cs,rfl,_⟩ <;> rfl
theorem SlR.vc (s : SlR ok w R h v xs) : vcells v = some [v] := by
 rcases s with ⟨rfl | rfl,rfl⟩ | ⟨b,o,c,cs,rfl,_⟩ <;> rfl
theorem SlR.same (s : SlR ok w R h v xs) : sameCell v v = true := by
 rcases s with ⟨rfl | rfl,rfl⟩ | ⟨b,o,c,cs,rfl,_⟩ <;> simp [sameCell]
theorem SlR.ne_text (s : SlR ok w R h v xs) : isText v = false := by
 rcases s with ⟨rfl | rfl,rfl⟩ | ⟨b,o,c,cs,rfl,_⟩ <;> rfl
theorem SlR.imp (s : SlR ok w R h v xs) (h1 : ∀ b,b < h.size → ok b → ok' b) (h2 : ∀ cs,∀ x ∈ xs,R h cs x → R' h' cs x) (h3 : ∀ b cs,ok b → cel h b = some cs → cel h' b = some cs) : SlR ok' w R' h' v xs := by
 rcases s with s | ⟨b,o,c,cs,e,hc,hk,hb,hi⟩
 ·exact .inl s
 ·refine .inr ⟨b,o,c,cs,e,hc,h1 b (cel_lt hb) hk,h3 b cs hk hb,fun i x hx => ⟨(hi i x hx).1,h2 _ _ (List.mem_of_getElem? hx) (hi i x hx).2⟩⟩
theorem SlR.kc (s : SlR ok w R h v xs) (k : KeptC h h' L) (hL : ∀ b ∈ L,¬ ok b) (hR : ∀ cs,∀ x ∈ xs,R h cs x → R h' cs x) : SlR ok w R h' v xs :=
 s.imp (fun _ _ q => q) hR fun b cs hk hb => (k.2 b (cel_lt hb) (fun q => hL b q hk)).trans hb
theorem SlR.row (s : SlR ok w R h v xs) (hne : 0 < xs.length) : ∃ b o c cs,v = .slice (some ⟨b,o,none⟩) xs.length c ∧ xs.length ≤ c ∧ ok b ∧ cel h b = some cs ∧ ∀ (i : Nat) (x : α),xs[i]? = some x → o + i * w + w ≤ cs.length ∧ R h ((cs.drop (o + i * w)).take w) x := by
 rcases s with ⟨_,rfl⟩ | s
 ·simp at hne
 ·exact s
theorem SlR.at' (s : SlR ok w R h v xs) {i : Nat} {x : α} (hx : xs[i]? = some x) : ∃ b o c cs es lv an,v = .slice (some ⟨b,o,none⟩) xs.length c ∧ ok b ∧ hget h b = some (.cells cs es lv an) ∧ o + i * w + w ≤ cs.length ∧ R h ((cs.drop (o + i * w)).take w) x := by
 have hi := (List.getElem?_eq_some_iff.1 hx).1
 obtain ⟨b,o,c,cs,e,_,hk,hb,hr⟩ := s.row (by omega)
 obtain ⟨es,lv,an,hg⟩ := cel_inv hb
 exact ⟨b,o,c,cs,es,lv,an,e,hk,hg,(hr i x hx).1,(hr i x hx).2⟩
theorem rowKept (h : H) (cs : List Value) (es : Nat) (an : List Nat) : Kept h (newRow h cs es an) [] := ⟨by simp,fun c hc _ => by simp [hc]⟩
def Bld (ok : Nat → Prop) (w : Nat) (R : H → List Value → α → Prop) (h : H) (v : Value) (xs : List α) : Prop :=
 (v = .slice none 0 0 ∧ xs = []) ∨
 ∃ b cs an,v = .slice (some ⟨b,0,none⟩) xs.length xs.length ∧ (ok b ∧ ∀ a ∈ an,ok a ∧ a < b) ∧ hget h b = some (.cells cs w true an) ∧ cs.length = xs.length * w ∧ ∀ (i : Nat) (x : α),xs[i]? = some x → R h ((cs.drop (i * w)).take w) x
theorem Bld.sl (s : Bld ok w R h v xs) : SlR ok w R h v xs := by
 rcases s with ⟨e,e'⟩ | ⟨b,cs,an,e,hk,hb,hl,hi⟩
 ·exact .inl ⟨.inl e,e'⟩
 ·refine .inr ⟨b,0,xs.length,cs,e,Nat.le_refl _,hk.1,cel_of hb,fun i x hx => ⟨?_,?_⟩⟩
  ·have hi' := (List.getElem?_eq_some_iff.1 hx).1
   have : (i + 1) * w ≤ xs.length * w := Nat.mul_le_mul_right _ hi'
   rw [Nat.add_mul] at this
   omega
  ·rw [Nat.zero_add];exact hi i x hx
theorem Bld.nil (ok : Nat → Prop) (w : Nat) (R : H → List Value → α → Prop) (h : H) : Bld ok w R h (.slice none 0 0) [] := .inl ⟨rfl,rfl⟩
theorem Bld.ne (s : Bld ok w R h v xs) {b : Nat} (hb : ¬ ok b) : ∀ o n c,v ≠ .slice (some ⟨b,o,none⟩) n c := by
 rintro o n c e
 rcases s with ⟨rfl,_⟩ | ⟨b',cs,an,e',hk,_⟩
 ·cases e
 ·rw [e'] at e
  injection e with e1
  injection e1 with e1
  injection e1 with e1
  exact hb (e1 ▸ hk.1)
theorem Bld.kept (s : Bld ok w R h v xs) (k : Kept h h' L) (hL : ∀ b ∈ L,¬ ok b) (hR : ∀ cs,∀ x ∈ xs,R h cs x → R h' cs x) : Bld ok w R h' v xs := by
 rcases s with s | ⟨b,cs,an,e,hk,hb,hl,hi⟩
 ·exact .inl s
 ·exact .inr ⟨b,cs,an,e,hk,(k.get (lt_of_get hb) (fun q => hL b q hk.1)).trans hb,hl,fun i x hx => hR _ _ (List.mem_of_getElem? hx) (hi i x hx)⟩
theorem Bld.imp (s : Bld ok w R h v xs) (h1 : ∀ b,b < h.size → ok b → ok' b) : Bld ok' w R h v xs := by
 rcases s with s | ⟨b,cs,an,e,hk,hb,q⟩
 ·exact .inl s
 ·have hs := lt_of_get hb
  exact .inr ⟨b,cs,an,e,⟨h1 b hs hk.1,fun a ha => ⟨h1 a (Nat.lt_trans (hk.2 a ha).2 hs) (hk.2 a ha).1,(hk.2 a ha).2⟩⟩,hb,q⟩
theorem Bld.frame (s : Bld ok w R h v xs) (k : Kept h h' []) (hR : ∀ cs x,R h cs x → R h' cs x) : Bld ok w R h' v xs :=
 s.kept k (by simp) fun cs x _ q => hR cs x q
theorem drop_take_append (cs new : List Value) (n w i : Nat) (hl : cs.length = n * w) (hi : i < n) : ((cs ++ new).drop (i * w)).take w = (cs.drop (i * w)).take w := by
 have h1 : (i + 1) * w ≤ n * w := Nat.mul_le_mul_right _ hi
 rw [Nat.add_mul] at h1
 rw [List.drop_append,List.take_append]
 have h2 : (List.drop (i * w) cs).length = n * w - i * w := by rw [List.length_drop,hl]
 have h3 : w - (List.drop (i * w) cs).length = 0 := by omega
 rw [h3,List.take_zero,List.append_nil]
theorem take_at_end (cs new : List Value) (n w : Nat) (hl : cs.length = n * w) (hn : new.length = w) : ((cs ++ new).drop (n * w)).take w = new := by
 rw [← hl,List.drop_left]
 exact List.take_of_length_le (by omega)
theorem take_in_end (cs new : List Value) (n w j : Nat) (hl : cs.length = n * w) : ((cs ++ new).drop ((n + j) * w)).take w = (new.drop (j * w)).take w := by
 rw [Nat.add_mul,← hl,← List.drop_drop,List.drop_left]
theorem Bld.appN {bytes : Nat} (s : Bld ok w R h v xs) {new : List Value} {ys : List α} (hn : new.length = ys.length * w) (hb : (xs.length + ys.length) * bytes ≤ 2 ^ 47)
  (hok : ok h.size) (hR : ∀ h',KeptC h h' [] → ∀ cs,∀ y ∈ xs,R h cs y → R h' cs y) (hx : ∀ h',KeptC h h' [] → ∀ (i : Nat) (y : α),ys[i]? = some y → R h' ((new.drop (i * w)).take w) y) :
  Ans (appendTo h w bytes v ys.length new) fun v' h' => Bld ok w R h' v' (xs ++ ys) ∧ KeptC h h' [] ∧ h'.size ≤ h.size + 1 ∧ (∀ b,b < h.size → (∀ o n c,v ≠ .slice (some ⟨b,o,none⟩) n c) → hget h' b = hget h b) ∧ (v' = v ∨ ∃ n c,v' = .slice (some ⟨h.size,0,none⟩) n c) := by
 by_cases hz : ys.length = 0
 ·have hys : ys = [] := List.length_eq_zero_iff.1 hz
  subst hys
  have e : appendTo h w bytes v 0 new = some (v,h) := by
   rcases s with ⟨rfl,rfl⟩ | ⟨b,cs,an,rfl,_⟩ <;> simp [appendTo]
  exact ⟨v,h,e,by simpa using s,KeptC.refl _ _,by omega,fun _ _ _ => rfl,.inl rfl⟩
 rcases s with ⟨rfl,rfl⟩ | ⟨b,cs,an,rfl,hk,hg,hl,hi⟩
 ·have kc : KeptC h (newRow h new w []) [] := ⟨by simp,fun c hc _ => cel_congr (by simp [hc])⟩
  have hb' : ys.length * bytes ≤ 140737488355328 := by simpa using hb
  have hz' : ¬ ys = [] := fun e => hz (by rw [e];rfl)
  refine ⟨.slice (some ⟨h.size,0,none⟩) ys.length ys.length,newRow h new w [],?_,?_,kc,by simp,fun c hc _ => by simp [hc],.inr ⟨_,_,rfl⟩⟩
  ·simp [appendTo,hb',hz']
  ·exact .inr ⟨h.size,new,[],rfl,⟨hok,by simp⟩,by simp,by simpa using hn,fun i y hy => hx _ kc i y (by simpa using hy)⟩
 ·have hbs := lt_of_get hg
  have kc : KeptC h (newRow (h.setIfInBounds b (.cells cs w false an)) (cs ++ new) w (b :: an)) [] := by
   refine ⟨by simp,fun c hc _ => ?_⟩
   by_cases e : b = c
   ·subst e
    rw [cel_of hg]
    exact cel_of (es := w) (lv := false) (an := an) (by simp [hbs])
   ·exact cel_congr (by simp [hc,e])
  have e2 : cs.take (xs.length * w) = cs := List.take_of_length_le (by omega)
  have hanc : ∀ a ∈ b :: an,ok a ∧ a < h.size := fun a ha => (List.mem_cons.1 ha).elim (fun e => e ▸ ⟨hk.1,hbs⟩) fun ha => ⟨(hk.2 a ha).1,Nat.lt_trans (hk.2 a ha).2 hbs⟩
  refine ⟨.slice (some ⟨h.size,0,none⟩) (xs.length + ys.length) (xs.length + ys.length),newRow (h.setIfInBounds b (.cells cs w false an)) (cs ++ new) w (b :: an),?_,?_,kc,by simp,?_,.inr ⟨_,_,rfl⟩⟩
  ·have hb' : (xs.length + ys.length) * bytes ≤ 140737488355328 := by simpa using hb
   have hz' : ¬ ys = [] := fun e => hz (by rw [e];rfl)
   have hnl : ¬ xs.length + ys.length ≤ xs.length := by omega
   simp [appendTo,hb',hg,hl,e2,hnl,hz']
  ·refine .inr ⟨h.size,cs ++ new,b :: an,by simp,⟨hok,hanc⟩,by simp,by simp [hl,hn,Nat.add_mul],?_⟩
   intro i y hy
   by_cases hi' : i < xs.length
   ·rw [List.getElem?_append_left hi'] at hy
    rw [drop_take_append cs new xs.length w i hl hi']
    exact hR _ kc _ _ (List.mem_of_getElem? hy) (hi i y hy)
   ·rw [List.getElem?_append_right (by omega)] at hy
    have := take_in_end cs new xs.length w (i - xs.length) hl
    rw [show xs.length + (i - xs.length) = i by omega] at this
    rw [this]
    exact hx _ kc _ _ hy
  ·intro c hc hn'
   have : ¬ b = c := fun e => hn' 0 _ _ (by rw [e])
   simp [hc,this]
theorem Bld.app {bytes : Nat} (s : Bld ok w R h v xs) {new : List Value} {x : α} (hn : new.length = w) (hb : (xs.length + 1) * bytes ≤ 2 ^ 47)
  (hok : ok h.size) (hR : ∀ h',KeptC h h' [] → ∀ cs,∀ y ∈ xs,R h cs y → R h' cs y) (hx : ∀ h',KeptC h h' [] → R h' new x) :
  Ans (appendTo h w bytes v 1 new) fun v' h' => Bld ok w R h' v' (xs ++ [x]) ∧ KeptC h h' [] ∧ h'.size ≤ h.size + 1 ∧ (∀ b,b < h.size → (∀ o n c,v ≠ .slice (some ⟨b,o,none⟩) n c) → hget h' b = hget h b) ∧ (v' = v ∨ ∃ n c,v' = .slice (some ⟨h.size,0,none⟩) n c) := by
 refine s.appN (ys := [x]) (by simpa using hn) hb hok hR fun h' k i y hy => ?_
 cases i with
 | succ i => simp at hy
 | zero =>
  simp at hy
  subst hy
  rw [Nat.zero_mul,List.drop_zero,List.take_of_length_le (by omega)]
  exact hx h' k
theorem SlR.src (s : SlR ok w R h v xs) (hw : 0 < w) (hcs : ∀ cs,∀ x ∈ xs,R h cs x → cs.length = w) : ∃ new,srcOf h w v = some (xs.length,new) ∧ new.length = xs.length * w ∧ ∀ (i : Nat) (x : α),xs[i]? = some x → R h ((new.drop (i * w)).take w) x := by
 rcases s with ⟨rfl | rfl,rfl⟩ | ⟨b,o,c,cs,rfl,hc,hk,hb,hi⟩
 ·exact ⟨[],by simp [srcOf],by simp,by simp⟩
 ·exact ⟨[],by simp [srcOf],by simp,by simp⟩
 ·obtain ⟨es',lv,an,hg⟩ := cel_inv hb
  by_cases hz : xs.length = 0
  ·have hx : xs = [] := List.length_eq_zero_iff.1 hz
   subst hx
   exact ⟨[],by simp [srcOf],by simp,by simp⟩
  ·have hlast := hi (xs.length - 1) xs[xs.length - 1] (List.getElem?_eq_getElem (by omega))
   have hle : o + xs.length * w ≤ cs.length := by
    have h1 := hlast.1
    have : (xs.length - 1) * w + w = xs.length * w := by
     rw [← Nat.succ_mul];congr 1;omega
    omega
   refine ⟨(cs.drop o).take (xs.length * w),?_,?_,?_⟩
   ·simp [srcOf,hz,rd,hg,hle]
   ·rw [List.length_take,List.length_drop];omega
   ·intro i x hx
    have hi' := (List.getElem?_eq_some_iff.1 hx).1
    have h1 : (i + 1) * w ≤ xs.length * w := Nat.mul_le_mul_right _ hi'
    rw [Nat.add_mul] at h1
    have := (hi i x hx).2
    rw [List.drop_take,List.take_take,List.drop_drop,Nat.min_eq_left (by omega)]
    exact this
end
end Go.Ev
namespace Go.Ev
open Go.Rn (u8 small digit bare blank hex)
def bs (t : ByteArray) : List UInt8 := t.data.toList
@[simp] theorem bs_len (t : ByteArray) : (bs t).length = slen t := by simp [bs]
theorem bs_mk (l : List UInt8) : bs ⟨⟨l⟩⟩ = l := rfl
theorem bs_inj {a b : ByteArray} (h : bs a = bs b) : a = b := by
 cases a with
 | mk a => cases b with
  | mk b => simp only [bs] at h;congr 1;exact Array.ext' h
theorem bs_app (a b : ByteArray) : bs (a ++ b) = bs a ++ bs b := by
 simp [bs,ByteArray.data_append]
theorem bs_ext (t : ByteArray) (p q : Nat) : bs (t.extract p q) = ((bs t).drop p).take (q - p) := by
 simp [bs,ByteArray.data_extract,List.take_drop]
theorem bs_nil {t : ByteArray} (h : bs t = []) : t = .empty := bs_inj (by rw [h];rfl)
@[simp] theorem bs_empty : bs .empty = [] := rfl
theorem slen_of {t : ByteArray} {l : List UInt8} (h : bs t = l) : slen t = l.length := by rw [← h,bs_len]
@[simp] theorem slen_app (a b : ByteArray) : slen (a ++ b) = slen a + slen b := by rw [← bs_len,bs_app,List.length_append,bs_len,bs_len]
theorem slen_ext (t : ByteArray) {p q : Nat} (h : p ≤ q) (hq : q ≤ slen t) : slen (t.extract p q) = q - p := by
 rw [← bs_len,bs_ext,List.length_take,List.length_drop,bs_len];omega
theorem data_get (t : ByteArray) (j : Nat) : t.data[j]? = (bs t)[j]? := by simp [bs]
theorem ba_beq (a b : ByteArray) : (a == b) = decide (bs a = bs b) := by
 by_cases h : bs a = bs b
 ·have := bs_inj h
  subst this
  rw [ba_self];simp
 ·rw [decide_eq_false h]
  cases hb : (a == b) with
  | false => rfl
  | true => exact absurd (congrArg bs ((MapKept.bytes_beq a b).1 hb)) h
theorem ba_bne (a b : ByteArray) : (a != b) = !decide (bs a = bs b) := by
 show (!(a == b)) = _
 rw [ba_beq]
def vb (c : UInt8) : Value := .int .u8 c.toNat
theorem vb_eq (c : UInt8) : vb c = .int .u8 c.toNat := rfl
def atS (t : ByteArray) (j : Int) (h : H) : Option (Value × H) := if 0 ≤ j then (t.data[j.toNat]?).map fun (c : UInt8) => (.int .u8 c.toNat,h) else none
theorem atS_get {t : ByteArray} {j : Int} {h : H} {c : UInt8} (h0 : 0 ≤ j) (hc : (bs t)[j.toNat]? = some c) : atS t j h = some (.int .u8 c.toNat,h) := by
 unfold atS
 rw [if_pos h0,data_get,hc];rfl
theorem atS_nat {t : ByteArray} {i : Nat} {h : H} {c : UInt8} (hc : (bs t)[i]? = some c) : atS t (i : Int) h = some (.int .u8 c.toNat,h) := atS_get (by omega) (by simpa using hc)
def ixS (v i : Value) (h : H) : Option (Value × H) := match v,i with
 | .string t,.int _ j => atS t j h
 | _,_ => none
@[simp] theorem ixS_eq (t : ByteArray) (k : IntKind) (j : Int) (h : H) : ixS (.string t) (.int k j) h = atS t j h := nr rfl
@[simp ↓ high] theorem evOp_indexStr {x i : Operand} {s : Env} {h : H} : evOp (.indexStr x i) s h = ixS (aeval s x) (aeval s i) h := by
 show (match aeval s x,aeval s i with
  | .string t,.int _ j => if 0 ≤ j then (t.data[j.toNat]?).map fun (c : UInt8) => (Value.int .u8 c.toNat,h) else none
  | _,_ => none) = _
 unfold ixS atS
 rfl
def cutS (t : ByteArray) (p q : Nat) (h : H) : Option (Value × H) := if p ≤ q ∧ q ≤ slen t then some (.string (t.extract p q),h) else none
theorem cutS_ok {t : ByteArray} {p q : Nat} {h : H} (h1 : p ≤ q) (h2 : q ≤ slen t) : cutS t p q h = some (.string (t.extract p q),h) := if_pos ⟨h1,h2⟩
def pcS (v : Value) (lo hi : Option Value) (h : H) : Option (Value × H) := match v with
 | .string t => match optInt hi (slen t) with
  | some q => match optInt lo 0 with
   | some p => cutS t p q h
   | none => none
  | none => none
 | _ => none
@[simp ↓ high] theorem evOp_sliceStr {x : Operand} {lo hi : Option Operand} {s : Env} {h : H} : evOp (.sliceStr x lo hi) s h = pcS (aeval s x) (lo.map (aeval s)) (hi.map (aeval s)) h := by
 simp only [evOp,pcS,cutS]
 rfl
theorem pcS_eq (t : ByteArray) (lo hi : Option Value) (h : H) : pcS (.string t) lo hi h = match optInt hi (slen t) with
  | some q => match optInt lo 0 with
   | some p => cutS t p q h
   | none => none
  | none => none := nr rfl
section
variable {cx : Cx} {d : Option Nat} {os : List AOper} {s s0 e : Env} {h h' : H} {kn : K} {keep : List Nat} {ds : Ds} {v : Value} {l ops : List DOp} {pn : Bool} {ts : List TR} {q : DK}
theorem nextC_ok (hv : isPan v = false) : nextC (some (v,h')) cx d os s kn keep ds = evR cx os (setD s d v) h' kn keep ds := by
 rw [nextC_some,hv];rfl
theorem nextCE_ok (hv : isPan v = false) : nextCE (some (v,h')) pn cx d l s kn keep ds ops s0 = evE cx l (setD s d v) h' kn keep ds ops s0 := by
 rw [nextCE_some,hv];rfl
theorem nextCD_ok (hv : isPan v = false) : nextCD (some (v,h')) pn cx d l ts e s h q s0 = evD cx l (ts ++ [⟨e,h,true,v⟩]) (setD s d v) h' q s0 := by
 rw [nextCD_some,hv];rfl
@[simp high] theorem nextC_bool (b : Bool) : nextC (some ((.bool b),h')) cx d os s kn keep ds = evR cx os (setD s d (.bool b)) h' kn keep ds := nextC_ok (by simp)
@[simp high] theorem nextCE_bool (b : Bool) : nextCE (some ((.bool b),h')) pn cx d l s kn keep ds ops s0 = evE cx l (setD s d (.bool b)) h' kn keep ds ops s0 := nextCE_ok (by simp)
@[simp high] theorem nextCD_bool (b : Bool) : nextCD (some ((.bool b),h')) pn cx d l ts e s h q s0 = evD cx l (ts ++ [⟨e,h,true,(.bool b)⟩]) (setD s d (.bool b)) h' q s0 := nextCD_ok (by simp)
@[simp high] theorem nextC_int (K : IntKind) (z : Int) : nextC (some ((.int K z),h')) cx d os s kn keep ds = evR cx os (setD s d (.int K z)) h' kn keep ds := nextC_ok (by simp)
@[simp high] theorem nextCE_int (K : IntKind) (z : Int) : nextCE (some ((.int K z),h')) pn cx d l s kn keep ds ops s0 = evE cx l (setD s d (.int K z)) h' kn keep ds ops s0 := nextCE_ok (by simp)
@[simp high] theorem nextCD_int (K : IntKind) (z : Int) : nextCD (some ((.int K z),h')) pn cx d l ts e s h q s0 = evD cx l (ts ++ [⟨e,h,true,(.int K z)⟩]) (setD s d (.int K z)) h' q s0 := nextCD_ok (by simp)
@[simp high] theorem nextC_string (t : ByteArray) : nextC (some ((.string t),h')) cx d os s kn keep ds = evR cx os (setD s d (.string t)) h' kn keep ds := nextC_ok (by simp)
@[simp high] theorem nextCE_string (t : ByteArray) : nextCE (some ((.string t),h')) pn cx d l s kn keep ds ops s0 = evE cx l (setD s d (.string t)) h' kn keep ds ops s0 := nextCE_ok (by simp)
@[simp high] theorem nextCD_string (t : ByteArray) : nextCD (some ((.string t),h')) pn cx d l ts e s h q s0 = evD cx l (ts ++ [⟨e,h,true,(.string t)⟩]) (setD s d (.string t)) h' q s0 := nextCD_ok (by simp)
@[simp high] theorem nextC_ptr (a : Option Addr) : nextC (some ((.pointer a),h')) cx d os s kn keep ds = evR cx os (setD s d (.pointer a)) h' kn keep ds := nextC_ok (by simp)
@[simp high] theorem nextCE_ptr (a : Option Addr) : nextCE (some ((.pointer a),h')) pn cx d l s kn keep ds ops s0 = evE cx l (setD s d (.pointer a)) h' kn keep ds ops s0 := nextCE_ok (by simp)
@[simp high] theorem nextCD_ptr (a : Option Addr) : nextCD (some ((.pointer a),h')) pn cx d l ts e s h q s0 = evD cx l (ts ++ [⟨e,h,true,(.pointer a)⟩]) (setD s d (.pointer a)) h' q s0 := nextCD_ok (by simp)
@[simp high] theorem nextC_slice (a : Option Addr) (n c : Nat) : nextC (some ((.slice a n c),h')) cx d os s kn keep ds = evR cx os (setD s d (.slice a n c)) h' kn keep ds := nextC_ok (by simp)
@[simp high] theorem nextCE_slice (a : Option Addr) (n c : Nat) : nextCE (some ((.slice a n c),h')) pn cx d l s kn keep ds ops s0 = evE cx l (setD s d (.slice a n c)) h' kn keep ds ops s0 := nextCE_ok (by simp)
@[simp high] theorem nextCD_slice (a : Option Addr) (n c : Nat) : nextCD (some ((.slice a n c),h')) pn cx d l ts e s h q s0 = evD cx l (ts ++ [⟨e,h,true,(.slice a n c)⟩]) (setD s d (.slice a n c)) h' q s0 := nextCD_ok (by simp)
@[simp high] theorem nextC_agg (a : Array Value) : nextC (some ((.agg a),h')) cx d os s kn keep ds = evR cx os (setD s d (.agg a)) h' kn keep ds := nextC_ok (by simp)
@[simp high] theorem nextCE_agg (a : Array Value) : nextCE (some ((.agg a),h')) pn cx d l s kn keep ds ops s0 = evE cx l (setD s d (.agg a)) h' kn keep ds ops s0 := nextCE_ok (by simp)
@[simp high] theorem nextCD_agg (a : Array Value) : nextCD (some ((.agg a),h')) pn cx d l ts e s h q s0 = evD cx l (ts ++ [⟨e,h,true,(.agg a)⟩]) (setD s d (.agg a)) h' q s0 := nextCD_ok (by simp)
@[simp high] theorem nextC_iface (ty : TypeId) (u : Value) : nextC (some ((.iface ty u),h')) cx d os s kn keep ds = evR cx os (setD s d (.iface ty u)) h' kn keep ds := nextC_ok (by simp)
@[simp high] theorem nextCE_iface (ty : TypeId) (u : Value) : nextCE (some ((.iface ty u),h')) pn cx d l s kn keep ds ops s0 = evE cx l (setD s d (.iface ty u)) h' kn keep ds ops s0 := nextCE_ok (by simp)
@[simp high] theorem nextCD_iface (ty : TypeId) (u : Value) : nextCD (some ((.iface ty u),h')) pn cx d l ts e s h q s0 = evD cx l (ts ++ [⟨e,h,true,(.iface ty u)⟩]) (setD s d (.iface ty u)) h' q s0 := nextCD_ok (by simp)
@[simp high] theorem nextC_nif  : nextC (some (.nilIface,h')) cx d os s kn keep ds = evR cx os (setD s d .nilIface) h' kn keep ds := nextC_ok (by simp)
@[simp high] theorem nextCE_nif  : nextCE (some (.nilIface,h')) pn cx d l s kn keep ds ops s0 = evE cx l (setD s d .nilIface) h' kn keep ds ops s0 := nextCE_ok (by simp)
@[simp high] theorem nextCD_nif  : nextCD (some (.nilIface,h')) pn cx d l ts e s h q s0 = evD cx l (ts ++ [⟨e,h,true,.nilIface⟩]) (setD s d .nilIface) h' q s0 := nextCD_ok (by simp)
@[simp high] theorem nextC_t0  : nextC (some ((.tuple ⟨[]⟩),h')) cx d os s kn keep ds = evR cx os (setD s d (.tuple ⟨[]⟩)) h' kn keep ds := nextC_ok (by simp)
@[simp high] theorem nextCE_t0  : nextCE (some ((.tuple ⟨[]⟩),h')) pn cx d l s kn keep ds ops s0 = evE cx l (setD s d (.tuple ⟨[]⟩)) h' kn keep ds ops s0 := nextCE_ok (by simp)
@[simp high] theorem nextCD_t0  : nextCD (some ((.tuple ⟨[]⟩),h')) pn cx d l ts e s h q s0 = evD cx l (ts ++ [⟨e,h,true,(.tuple ⟨[]⟩)⟩]) (setD s d (.tuple ⟨[]⟩)) h' q s0 := nextCD_ok (by simp)
@[simp high] theorem nextC_t2 (x y : Value) : nextC (some ((.tuple ⟨[x,y]⟩),h')) cx d os s kn keep ds = evR cx os (setD s d (.tuple ⟨[x,y]⟩)) h' kn keep ds := nextC_ok (by simp)
@[simp high] theorem nextCE_t2 (x y : Value) : nextCE (some ((.tuple ⟨[x,y]⟩),h')) pn cx d l s kn keep ds ops s0 = evE cx l (setD s d (.tuple ⟨[x,y]⟩)) h' kn keep ds ops s0 := nextCE_ok (by simp)
@[simp high] theorem nextCD_t2 (x y : Value) : nextCD (some ((.tuple ⟨[x,y]⟩),h')) pn cx d l ts e s h q s0 = evD cx l (ts ++ [⟨e,h,true,(.tuple ⟨[x,y]⟩)⟩]) (setD s d (.tuple ⟨[x,y]⟩)) h' q s0 := nextCD_ok (by simp)
@[simp high] theorem nextC_t3i (K : IntKind) (z : Int) (x y : Value) : nextC (some ((.tuple ⟨[.int K z,x,y]⟩),h')) cx d os s kn keep ds = evR cx os (setD s d (.tuple ⟨[.int K z,x,y]⟩)) h' kn keep ds := nextC_ok (by simp)
@[simp high] theorem nextCE_t3i (K : IntKind) (z : Int) (x y : Value) : nextCE (some ((.tuple ⟨[.int K z,x,y]⟩),h')) pn cx d l s kn keep ds ops s0 = evE cx l (setD s d (.tuple ⟨[.int K z,x,y]⟩)) h' kn keep ds ops s0 := nextCE_ok (by simp)
@[simp high] theorem nextCD_t3i (K : IntKind) (z : Int) (x y : Value) : nextCD (some ((.tuple ⟨[.int K z,x,y]⟩),h')) pn cx d l ts e s h q s0 = evD cx l (ts ++ [⟨e,h,true,(.tuple ⟨[.int K z,x,y]⟩)⟩]) (setD s d (.tuple ⟨[.int K z,x,y]⟩)) h' q s0 := nextCD_ok (by simp)
@[simp high] theorem nextC_t3s (t : ByteArray) (x y : Value) : nextC (some ((.tuple ⟨[.string t,x,y]⟩),h')) cx d os s kn keep ds = evR cx os (setD s d (.tuple ⟨[.string t,x,y]⟩)) h' kn keep ds := nextC_ok (by simp)
@[simp high] theorem nextCE_t3s (t : ByteArray) (x y : Value) : nextCE (some ((.tuple ⟨[.string t,x,y]⟩),h')) pn cx d l s kn keep ds ops s0 = evE cx l (setD s d (.tuple ⟨[.string t,x,y]⟩)) h' kn keep ds ops s0 := nextCE_ok (by simp)
@[simp high] theorem nextCD_t3s (t : ByteArray) (x y : Value) : nextCD (some ((.tuple ⟨[.string t,x,y]⟩),h')) pn cx d l ts e s h q s0 = evD cx l (ts ++ [⟨e,h,true,(.tuple ⟨[.string t,x,y]⟩)⟩]) (setD s d (.tuple ⟨[.string t,x,y]⟩)) h' q s0 := nextCD_ok (by simp)
@[simp high] theorem nextC_t3a (a : Array Value) (x y : Value) : nextC (some ((.tuple ⟨[.agg a,x,y]⟩),h')) cx d os s kn keep ds = evR cx os (setD s d (.tuple ⟨[.agg a,x,y]⟩)) h' kn keep ds := nextC_ok (by simp)
@[simp high] theorem nextCE_t3a (a : Array Value) (x y : Value) : nextCE (some ((.tuple ⟨[.agg a,x,y]⟩),h')) pn cx d l s kn keep ds ops s0 = evE cx l (setD s d (.tuple ⟨[.agg a,x,y]⟩)) h' kn keep ds ops s0 := nextCE_ok (by simp)
@[simp high] theorem nextCD_t3a (a : Array Value) (x y : Value) : nextCD (some ((.tuple ⟨[.agg a,x,y]⟩),h')) pn cx d l ts e s h q s0 = evD cx l (ts ++ [⟨e,h,true,(.tuple ⟨[.agg a,x,y]⟩)⟩]) (setD s d (.tuple ⟨[.agg a,x,y]⟩)) h' q s0 := nextCD_ok (by simp)
@[simp high] theorem nextC_t3l (a : Option Addr) (n c : Nat) (x y : Value) : nextC (some ((.tuple ⟨[.slice a n c,x,y]⟩),h')) cx d os s kn keep ds = evR cx os (setD s d (.tuple ⟨[.slice a n c,x,y]⟩)) h' kn keep ds := nextC_ok (by simp)
@[simp high] theorem nextCE_t3l (a : Option Addr) (n c : Nat) (x y : Value) : nextCE (some ((.tuple ⟨[.slice a n c,x,y]⟩),h')) pn cx d l s kn keep ds ops s0 = evE cx l (setD s d (.tuple ⟨[.slice a n c,x,y]⟩)) h' kn keep ds ops s0 := nextCE_ok (by simp)
@[simp high] theorem nextCD_t3l (a : Option Addr) (n c : Nat) (x y : Value) : nextCD (some ((.tuple ⟨[.slice a n c,x,y]⟩),h')) pn cx d l ts e s h q s0 = evD cx l (ts ++ [⟨e,h,true,(.tuple ⟨[.slice a n c,x,y]⟩)⟩]) (setD s d (.tuple ⟨[.slice a n c,x,y]⟩)) h' q s0 := nextCD_ok (by simp)
@[simp high] theorem nextC_t4 (x y z w : Value) (r : List Value) : nextC (some ((.tuple ⟨x :: y :: z :: w :: r⟩),h')) cx d os s kn keep ds = evR cx os (setD s d (.tuple ⟨x :: y :: z :: w :: r⟩)) h' kn keep ds := nextC_ok (by simp)
@[simp high] theorem nextCE_t4 (x y z w : Value) (r : List Value) : nextCE (some ((.tuple ⟨x :: y :: z :: w :: r⟩),h')) pn cx d l s kn keep ds ops s0 = evE cx l (setD s d (.tuple ⟨x :: y :: z :: w :: r⟩)) h' kn keep ds ops s0 := nextCE_ok (by simp)
@[simp high] theorem nextCD_t4 (x y z w : Value) (r : List Value) : nextCD (some ((.tuple ⟨x :: y :: z :: w :: r⟩),h')) pn cx d l ts e s h q s0 = evD cx l (ts ++ [⟨e,h,true,(.tuple ⟨x :: y :: z :: w :: r⟩)⟩]) (setD s d (.tuple ⟨x :: y :: z :: w :: r⟩)) h' q s0 := nextCD_ok (by simp)
theorem nextC_pan (hv : isPan v = true) : nextC (some (v,h')) cx d os s kn keep ds = cx.p v s h' ds := by
 rw [nextC_some,hv];rfl
theorem nextCE_pan (hv : isPan v = true) : nextCE (some (v,h')) true cx d l s kn keep ds ops s0 = cx.p v (rest s0 ops) h' ds := by
 rw [nextCE_some,hv];rfl
theorem nextCD_pan (hv : isPan v = true) : nextCD (some (v,h')) true cx d l ts e s h q s0 = q.pan cx (ts ++ ⟨e,h,true,v⟩ :: blanks h' l) s0 h' v := by
 rw [nextCD_some,hv];rfl
@[simp high] theorem nextC_pv (x : Value) : nextC (some (pv x,h')) cx d os s kn keep ds = cx.p (pv x) s h' ds := nextC_pan (by simp)
@[simp high] theorem nextCE_pv (x : Value) : nextCE (some (pv x,h')) true cx d l s kn keep ds ops s0 = cx.p (pv x) (rest s0 ops) h' ds := nextCE_pan (by simp)
@[simp high] theorem nextCD_pv (x : Value) : nextCD (some (pv x,h')) true cx d l ts e s h q s0 = q.pan cx (ts ++ ⟨e,h,true,pv x⟩ :: blanks h' l) s0 h' (pv x) := nextCD_pan (by simp)
theorem Ans.nextC {x : Option (Value × H)} {Q R : Value → H → Prop} (a : Ans x Q) (hk : ∀ v h',Q v h' → Ans (Ev.nextC (some (v,h')) cx d os s kn keep ds) R) : Ans (Ev.nextC x cx d os s kn keep ds) R := by
 obtain ⟨v,h',rfl,q⟩ := a;exact hk v h' q
end
theorem small_p (c : UInt8) : (decide ((c.toNat : Int) ≥ 97) && decide ((c.toNat : Int) ≤ 122)) = small c := u8 (p := fun c => (decide ((c.toNat : Int) ≥ 97) && decide ((c.toNat : Int) ≤ 122)) = small c) (by decide +kernel) c
theorem digit_p (c : UInt8) : (decide ((c.toNat : Int) ≥ 48) && decide ((c.toNat : Int) ≤ 57)) = digit c := u8 (p := fun c => (decide ((c.toNat : Int) ≥ 48) && decide ((c.toNat : Int) ≤ 57)) = digit c) (by decide +kernel) c
theorem byte_beq (c : UInt8) (n : Nat) (hn : n < 256) : ((c.toNat : Int) == (n : Int)) = decide (c = UInt8.ofNat n) := by
 by_cases h : c = UInt8.ofNat n
 ·subst h
  simp [UInt8.toNat_ofNat,Nat.mod_eq_of_lt hn]
 ·rw [decide_eq_false h]
  simp only [beq_eq_false_iff_ne,ne_eq]
  intro e
  apply h
  have : c.toNat = n := by omega
  rw [← this,UInt8.ofNat_toNat]
end Go.Ev
