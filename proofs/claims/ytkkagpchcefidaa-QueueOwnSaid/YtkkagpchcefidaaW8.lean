/- Several texts in one: Ev17. -/
import Derived.IntWalk
import Derived.Test.YtkkagpchcefidaaW7

/- Ev17: the evaluator's equations, one step at a time, for proofs about what it answers. -/
set_option linter.unusedSimpArgs false
set_option linter.unusedVariables false
namespace Go.Ev

/-- It answers, and the answer is such. -/
def Ans (x : Res) (Q : Value → H → Prop) : Prop := ∃ v h, x = some (v, h) ∧ Q v h

theorem Ans.of {v : Value} {h : H} {Q : Value → H → Prop} (hq : Q v h) : Ans (some (v, h)) Q := ⟨v, h, rfl, hq⟩
theorem Ans.mono {x : Res} {Q R : Value → H → Prop} (e : Ans x Q) (hq : ∀ v h, Q v h → R v h) : Ans x R := by
  obtain ⟨v, h, e, q⟩ := e; exact ⟨v, h, e, hq v h q⟩
theorem Ans.eq {x : Res} {Q : Value → H → Prop} (e : Ans x Q) {v : Value} {h : H} (e' : x = some (v, h)) : Q v h := by
  obtain ⟨v', h', e, q⟩ := e; rw [e'] at e; cases e; exact q

/-- An equation that is to be used as such, not to be computed again. -/
theorem nr {α : Sort _} {a b : α} (h : a = b) : a = b := h

/-! ### the steps; each is an equation of a call with all its arguments, so that nothing behind it is looked at before its turn -/
def callV (cf : CF) (v : Value) (args : List Value) (h : H) : Option (Value × H) := match v with
  | .func (.func g) ⟨first⟩ ⟨cap⟩ => cf g (first ++ args ++ cap) h
  | _ => none
@[simp] theorem callV_func (cf : CF) (g : FuncId) (args : List Value) (h : H) : callV cf (.func (.func g) #[] #[]) args h = cf g args h := by
  show cf g ([] ++ args ++ []) h = _
  simp

variable {cf : CF} {F F0 : Nat} {s : Env} {h : H} {k : Env → H → Res} {kn kr : K} {ke : Nat → K} {ds : Ds} {keep live : List Nat} {d : Option Nat} {os : List AOper} {v : Value}

def evR (cf : CF) (ops : List AOper) (s : Env) (h : H) (kn : K) (keep : List Nat) (ds : Ds) : Res := evOps cf ops s h fun s' h' => kn (s'.keep keep) h' ds
def nextR (x : Option (Value × H)) (cf : CF) (d : Option Nat) (os : List AOper) (s : Env) (kn : K) (keep : List Nat) (ds : Ds) : Res := match x with
  | some (v, h') => evR cf os (setD s d v) h' kn keep ds
  | none => none
def guardR (v : Value) (b : Bool) (ac : AAct) (cf : CF) (d : Option Nat) (os : List AOper) (s : Env) (h : H) (kn : K) (keep : List Nat) (ds : Ds) : Res := match v with
  | .bool c => bif c == b then evR cf (⟨d, none, ac⟩ :: os) s h kn keep ds else evR cf os (setD s d unset) h kn keep ds
  | .tuple ⟨[]⟩ => evR cf os (setD s d unset) h kn keep ds
  | _ => none
def condC (v : Value) (F : Nat) (cf : CF) (a b : ACode) (kn : K) (ke : Nat → K) (kr : K) (s : Env) (h : H) (ds : Ds) : Res := match v with
  | .bool true => evC F cf a kn ke kr s h ds
  | .bool false => evC F cf b kn ke kr s h ds
  | _ => none
def putK (i : Nat) (kn : K) (ke : Nat → K) : Nat → K := fun j => if j = i then kn else ke j
def noK : Nat → K := fun _ _ _ _ => none
def endK (cf : CF) (rs : List ARes) : K := fun s h ds => evEnd cf rs s ds h
def keepK (live : List Nat) (k : K) : K := fun s h ds => k (s.keep live) h ds
def loopK (F0 : Nat) (cf : CF) (live : List Nat) (c : ACode) (ke : Nat → K) (kr : K) : Nat → K := evLoop fun again => evC F0 cf c (keepK live again) ke kr

@[simp] theorem nextR_some {h' : H} : nextR (some (v, h')) cf d os s kn keep ds = evR cf os (setD s d v) h' kn keep ds := nr rfl
theorem Ans.next {x : Option (Value × H)} {Q R : Value → H → Prop} (e : Ans x Q) (hk : ∀ v h, Q v h → Ans (evR cf os (setD s d v) h kn keep ds) R) : Ans (nextR x cf d os s kn keep ds) R := by
  obtain ⟨v, h, rfl, q⟩ := e; exact hk v h q
@[simp] theorem guardR_tt {ac : AAct} : guardR (.bool true) true ac cf d os s h kn keep ds = evR cf (⟨d, none, ac⟩ :: os) s h kn keep ds := nr rfl
@[simp] theorem guardR_ff {ac : AAct} : guardR (.bool false) false ac cf d os s h kn keep ds = evR cf (⟨d, none, ac⟩ :: os) s h kn keep ds := nr rfl
@[simp] theorem guardR_tf {ac : AAct} : guardR (.bool true) false ac cf d os s h kn keep ds = evR cf os (setD s d unset) h kn keep ds := nr rfl
@[simp] theorem guardR_ft {ac : AAct} : guardR (.bool false) true ac cf d os s h kn keep ds = evR cf os (setD s d unset) h kn keep ds := nr rfl
@[simp] theorem guardR_un {b : Bool} {ac : AAct} : guardR unset b ac cf d os s h kn keep ds = evR cf os (setD s d unset) h kn keep ds := nr rfl
@[simp] theorem condC_true {a b : ACode} : condC (.bool true) F cf a b kn ke kr s h ds = evC F cf a kn ke kr s h ds := nr rfl
@[simp] theorem condC_false {a b : ACode} : condC (.bool false) F cf a b kn ke kr s h ds = evC F cf b kn ke kr s h ds := nr rfl
@[simp] theorem putK_app {i j : Nat} : putK i kn ke j s h ds = if j = i then kn s h ds else ke j s h ds := by unfold putK; split <;> rfl
@[simp] theorem endK_nil {rs : List ARes} : endK cf rs s h [] = (evResL s h rs).map fun l => (packRes l, h) := nr rfl
@[simp] theorem endK_cons {rs : List ARes} {x : ADef} : endK cf rs s h (x :: ds) = match cf x.fn x.args h with
    | some (_, h') => endK cf rs s h' ds
    | none => none := nr rfl
@[simp] theorem keepK_app : keepK live kn s h ds = kn (s.keep live) h ds := nr rfl
theorem loopK_succ {c : ACode} {n : Nat} : loopK F0 cf live c ke kr (n + 1) s h ds = evC F0 cf c (keepK live (loopK F0 cf live c ke kr n)) ke kr s h ds := nr rfl

@[simp] theorem evR_nil : evR cf [] s h kn keep ds = kn (s.keep keep) h ds := nr rfl
@[simp] theorem evR_op {o : AOp} : evR cf (⟨d, none, .op o⟩ :: os) s h kn keep ds = nextR (evOp o s h) cf d os s kn keep ds := by
  simp only [evR, evOps, evOper, evAct, nextR]
  cases evOp o s h <;> rfl
@[simp] theorem evR_call {f : Operand} {args : List Operand} : evR cf (⟨d, none, .call f args⟩ :: os) s h kn keep ds = nextR (callV cf (aeval s f) (args.map (aeval s)) h) cf d os s kn keep ds := by
  simp only [evR, evOps, evOper, evAct, nextR, callV]
  split <;> rename_i hf <;> split at hf <;> simp_all
@[simp] theorem evR_guard {t : Nat} {b : Bool} {ac : AAct} : evR cf (⟨d, some (t, b), ac⟩ :: os) s h kn keep ds = guardR (s.get t) b ac cf d os s h kn keep ds := by
  simp only [evR, evOps, evOper, guardR]
  generalize s.get t = u
  cases u with
  | bool c => cases evAct cf ac s h <;> rfl
  | tuple vs =>
    obtain ⟨l⟩ := vs
    cases l <;> rfl
  | _ => rfl

@[simp] theorem evC_skip : evC F cf .skip kn ke kr s h ds = kn s h ds := nr rfl
@[simp] theorem evC_region {ops : List AOper} : evC F cf (.region ops keep) kn ke kr s h ds = evR cf ops s h kn keep ds := nr rfl
@[simp] theorem evC_seq {a b : ACode} : evC F cf (.seq a b) kn ke kr s h ds = evC F cf a (evC F cf b kn ke kr) ke kr s h ds := nr rfl
@[simp] theorem evC_cond {c : Operand} {a b : ACode} : evC F cf (.cond c a b) kn ke kr s h ds = condC (aeval s c) F cf a b kn ke kr s h ds := nr rfl
@[simp] theorem evC_block {i : Nat} {c : ACode} : evC F cf (.block i c) kn ke kr s h ds = evC F cf c kn (putK i kn ke) kr s h ds := nr rfl
@[simp] theorem evC_loop {c : ACode} : evC F cf (.loop live c) kn ke kr s h ds = loopK F cf live c ke kr F (s.keep live) h ds := nr rfl
@[simp] theorem evC_exit {i : Nat} : evC F cf (.exit i) kn ke kr s h ds = ke i s h ds := nr rfl
@[simp] theorem evC_ret : evC F cf .ret kn ke kr s h ds = kr s h ds := nr rfl

@[simp] theorem get_nil (t : Nat) : Env.get [] t = junk := nr rfl
@[simp] theorem get_cons (i t : Nat) (v : Value) (r : Env) : Env.get ((i, v) :: r) t = bif i == t then v else Env.get r t := nr rfl
@[simp] theorem keep_nil (s : Env) : Env.keep s [] = [] := nr rfl
@[simp] theorem keep_cons (s : Env) (t : Nat) (ts : List Nat) : Env.keep s (t :: ts) = (t, s.get t) :: Env.keep s ts := nr rfl
@[simp] theorem setD_some (s : Env) (d : Nat) (v : Value) : setD s (some d) v = (d, v) :: s := nr rfl
@[simp] theorem setD_none (s : Env) (v : Value) : setD s none v = s := nr rfl
/-- The bits that differ. -/
def uxor (k : IntKind) (a b : Int) : Int := k.wrap (BitVec.ofInt k.bits a ^^^ BitVec.ofInt k.bits b).toNat
section
variable (K : IntKind) (x y : Int)
@[simp] theorem intBin_add : intBin .add K x y = some (.int K (K.wrap (x + y))) := nr rfl
@[simp] theorem intBin_sub : intBin .sub K x y = some (.int K (K.wrap (x - y))) := nr rfl
@[simp] theorem intBin_mul : intBin .mul K x y = some (.int K (K.wrap (x * y))) := nr rfl
@[simp] theorem intBin_quo : intBin .quo K x y = if y = 0 then none else some (.int K (K.wrap (x.tdiv y))) := nr rfl
@[simp] theorem intBin_rem : intBin .rem K x y = if y = 0 then none else some (.int K (x.tmod y)) := nr rfl
@[simp] theorem intBin_xor : intBin .xor K x y = some (.int K (uxor K x y)) := nr rfl
@[simp] theorem intBin_eql : intBin .eql K x y = some (.bool (x == y)) := nr rfl
@[simp] theorem intBin_neq : intBin .neq K x y = some (.bool (x != y)) := nr rfl
@[simp] theorem intBin_lss : intBin .lss K x y = some (.bool (decide (x < y))) := nr rfl
@[simp] theorem intBin_leq : intBin .leq K x y = some (.bool (decide (x ≤ y))) := nr rfl
@[simp] theorem intBin_gtr : intBin .gtr K x y = some (.bool (decide (x > y))) := nr rfl
@[simp] theorem intBin_geq : intBin .geq K x y = some (.bool (decide (x ≥ y))) := nr rfl
end
theorem uxor_u8 (a b : Int) : 0 ≤ uxor .u8 a b ∧ uxor .u8 a b < 256 := by
  unfold uxor
  rw [IntKind.wrap_u8]
  omega
attribute [simp] aBin strBin aUn nilEq rd wr entriesOf partsOf fillL optInt cellsEq cellEq findM keyEq isKey
attribute [simp] evEnd aeval konst envOf evResL evRes1 packRes evOp one? oneCell vcells isText isKey

/-- What a drawn region answers, stage by stage. -/
def goD (cf : CF) : List DOp → Env → H → (List TR → Env → H → Res) → Res
  | [], s, h, k => k [] s h
  | d :: l, s, h, k => match wantedA d.o.guard (s.keep d.slots) with
    | none => none
    | some false => goD cf l (setD s d.o.dst unset) h fun ts s2 h2 => k (⟨s.keep d.slots, h, false, unset⟩ :: ts) s2 h2
    | some true => match evAct cf d.o.act (s.keep d.slots) h with
      | some (v, h1) => goD cf l (setD s d.o.dst v) h1 fun ts s2 h2 => k (⟨s.keep d.slots, h, true, v⟩ :: ts) s2 h2
      | none => none

theorem goD_eq : ∀ (ops : List DOp) (s : Env) (h : H) (k : List TR → Env → H → Res), goD cf ops s h k = match trace cf ops s h with
    | some (ts, s1, h1) => k ts s1 h1
    | none => none
  | [], s, h, k => rfl
  | d :: l, s, h, k => by
    unfold goD trace
    cases wantedA d.o.guard (s.keep d.slots) with
    | none => rfl
    | some c =>
      cases c with
      | false =>
        simp only [goD_eq l]
        cases trace cf l (setD s d.o.dst unset) h with
        | none => rfl
        | some q => rfl
      | true =>
        simp only
        cases evAct cf d.o.act (s.keep d.slots) h with
        | none => rfl
        | some p =>
          obtain ⟨v, h1⟩ := p
          simp only [goD_eq l]
          cases trace cf l (setD s d.o.dst v) h1 with
          | none => rfl
          | some q => rfl

theorem goD_nol : ∀ (ops : List DOp) (s : Env) (h : H) (k k' : List TR → Env → H → Res), (∀ ts s h, k ts s h = k' ts s h) → goD cf ops s h k = goD cf ops s h k'
  | ops, s, h, k, k', e => by
    have : k = k' := by funext a b c; exact e a b c
    rw [this]

/-- What goes on behind a drawn region: what is read beside a write is looked at again. -/
structure DK where
  ops : List DOp
  wins : List (Nat × List Nat)
  keep : List Nat
  kn : K
  ds : Ds
def DK.go (cf : CF) (q : DK) (ts : List TR) (s : Env) (h : H) : Res := if chks cf q.ops ts h q.wins = true then q.kn (s.keep q.keep) h q.ds else none

def evD (cf : CF) (l : List DOp) (ts : List TR) (s : Env) (h : H) (q : DK) : Res := goD cf l s h fun ts' s' h' => q.go cf (ts ++ ts') s' h'
def nextD (x : Option (Value × H)) (cf : CF) (d : Option Nat) (l : List DOp) (ts : List TR) (e s : Env) (h : H) (q : DK) : Res := match x with
  | some (v, h') => evD cf l (ts ++ [⟨e, h, true, v⟩]) (setD s d v) h' q
  | none => none
def guardD (v : Value) (b : Bool) (ac : AAct) (cf : CF) (d : Option Nat) (l : List DOp) (ts : List TR) (e s : Env) (h : H) (q : DK) : Res := match v with
  | .bool c => bif c == b then nextD (evAct cf ac e h) cf d l ts e s h q else evD cf l (ts ++ [⟨e, h, false, unset⟩]) (setD s d unset) h q
  | .tuple ⟨[]⟩ => evD cf l (ts ++ [⟨e, h, false, unset⟩]) (setD s d unset) h q
  | _ => none

variable {l : List DOp} {ts : List TR} {e : Env} {q : DK}
@[simp] theorem evC_regionD {ops : List DOp} {wins : List (Nat × List Nat)} : evC F cf (.regionD ops wins keep) kn ke kr s h ds = evD cf ops [] s h ⟨ops, wins, keep, kn, ds⟩ := by
  show evRegionD cf ops wins s h _ = _
  unfold evD
  rw [goD_eq]; rfl
@[simp] theorem evD_nil : evD cf [] ts s h q = q.go cf ts s h := by simp [evD, goD]
@[simp] theorem evD_op {i : Nat} {o : AOp} {sl : List Nat} : evD cf (⟨i, ⟨d, none, .op o⟩, sl⟩ :: l) ts s h q = nextD (evOp o (s.keep sl) h) cf d l ts (s.keep sl) s h q := by
  simp only [evD, goD, wantedA, evAct, nextD]
  cases evOp o (s.keep sl) h with
  | none => rfl
  | some p => simp [List.append_assoc]
@[simp] theorem evD_call {i : Nat} {f : Operand} {args : List Operand} {sl : List Nat} : evD cf (⟨i, ⟨d, none, .call f args⟩, sl⟩ :: l) ts s h q = nextD (callV cf (aeval (s.keep sl) f) (args.map (aeval (s.keep sl))) h) cf d l ts (s.keep sl) s h q := by
  have e : evAct cf (.call f args) (s.keep sl) h = callV cf (aeval (s.keep sl) f) (args.map (aeval (s.keep sl))) h := by
    simp only [evAct, callV]
    split <;> (rename_i hf; split <;> simp_all)
  rw [← e]
  simp only [evD, goD, wantedA, nextD]
  cases evAct cf (.call f args) (s.keep sl) h with
  | none => rfl
  | some p => simp [List.append_assoc]
@[simp] theorem evD_guard {i t : Nat} {b : Bool} {ac : AAct} {sl : List Nat} : evD cf (⟨i, ⟨d, some (t, b), ac⟩, sl⟩ :: l) ts s h q = guardD ((s.keep sl).get t) b ac cf d l ts (s.keep sl) s h q := by
  simp only [evD, goD, wantedA, guardD]
  generalize (s.keep sl).get t = u
  cases u with
  | bool c =>
    cases hcb : c == b with
    | true =>
      simp only [hcb, cond_true, nextD]
      cases evAct cf ac (s.keep sl) h with
      | none => rfl
      | some p => simp [evD, List.append_assoc]
    | false => simp [hcb, evD, List.append_assoc]
  | tuple vs =>
    obtain ⟨l'⟩ := vs
    cases l' with
    | nil => simp [evD, List.append_assoc]
    | cons _ _ => rfl
  | _ => rfl
@[simp] theorem nextD_some {h' : H} : nextD (some (v, h')) cf d l ts e s h q = evD cf l (ts ++ [⟨e, h, true, v⟩]) (setD s d v) h' q := nr rfl
@[simp] theorem guardD_tt {ac : AAct} : guardD (.bool true) true ac cf d l ts e s h q = nextD (evAct cf ac e h) cf d l ts e s h q := nr rfl
@[simp] theorem guardD_ff {ac : AAct} : guardD (.bool false) false ac cf d l ts e s h q = nextD (evAct cf ac e h) cf d l ts e s h q := nr rfl
@[simp] theorem guardD_tf {ac : AAct} : guardD (.bool true) false ac cf d l ts e s h q = evD cf l (ts ++ [⟨e, h, false, unset⟩]) (setD s d unset) h q := nr rfl
@[simp] theorem guardD_ft {ac : AAct} : guardD (.bool false) true ac cf d l ts e s h q = evD cf l (ts ++ [⟨e, h, false, unset⟩]) (setD s d unset) h q := nr rfl
@[simp] theorem guardD_un {b : Bool} {ac : AAct} : guardD unset b ac cf d l ts e s h q = evD cf l (ts ++ [⟨e, h, false, unset⟩]) (setD s d unset) h q := nr rfl
@[simp] theorem evAct_op {o : AOp} : evAct cf (.op o) s h = evOp o s h := nr rfl
@[simp] theorem go_none {ops : List DOp} : DK.go cf ⟨ops, [], keep, kn, ds⟩ ts s h = kn (s.keep keep) h ds := by simp [DK.go, chks]

/-- How long a text is (a name of its own). -/
def slen (t : ByteArray) : Nat := t.size
@[simp high] theorem slen_eq (t : ByteArray) : t.size = slen t := rfl
@[simp] theorem bytesOf_len (t : ByteArray) : (bytesOf t).length = slen t := by
  simp only [bytesOf, List.length_map, Array.length_toList]; rfl

/-! ### memory -/
/-- What lies at a block (a name of its own, so that nothing else is said of it). -/
def hget (h : H) (b : Nat) : Option Blk := h[b]?
@[simp high] theorem hget_eq (h : H) (b : Nat) : h[b]? = hget h b := rfl

@[simp] theorem kill_nil (h : H) : kill h [] = h := rfl
@[simp] theorem newRow_size {h : H} {cs : List Value} {es : Nat} {an : List Nat} : (newRow h cs es an).size = h.size + 1 := by simp [newRow]
@[simp] theorem newRow_old {h : H} {cs : List Value} {es b : Nat} {an : List Nat} (hb : b < h.size) : hget (newRow h cs es an) b = hget h b := by
  show (h.push _)[b]? = h[b]?
  rw [Array.getElem?_push, if_neg (Nat.ne_of_lt hb)]
@[simp] theorem newRow_new {h : H} {cs : List Value} {es b : Nat} {an : List Nat} (hb : b = h.size) : hget (newRow h cs es an) b = some (.cells cs es true an) := by
  show (h.push _)[b]? = _
  rw [hb, Array.getElem?_push, if_pos rfl]
@[simp] theorem push_old {h : H} {b : Nat} {x : Blk} (hb : b < h.size) : hget (h.push x) b = hget h b := by
  show (h.push _)[b]? = h[b]?
  rw [Array.getElem?_push, if_neg (Nat.ne_of_lt hb)]
@[simp] theorem push_new {h : H} {b : Nat} {x : Blk} (hb : b = h.size) : hget (h.push x) b = some x := by
  show (h.push _)[b]? = _
  rw [hb, Array.getElem?_push, if_pos rfl]
@[simp] theorem set_self {h : H} {b c : Nat} {x : Blk} (hb : c = b) (hc : b < h.size) : hget (h.setIfInBounds b x) c = some x := by
  show (h.setIfInBounds b x)[c]? = _
  subst hb; rw [Array.getElem?_setIfInBounds_self_of_lt hc]
@[simp] theorem set_other {h : H} {b c : Nat} {x : Blk} (hb : ¬ b = c) : hget (h.setIfInBounds b x) c = hget h c := Array.getElem?_setIfInBounds_ne hb
@[simp] theorem add_1 (n : Nat) : n + 1 + 1 = n + 2 := rfl
@[simp] theorem add_2 (n : Nat) : n + 2 + 1 = n + 3 := rfl
@[simp] theorem add_3 (n : Nat) : n + 3 + 1 = n + 4 := rfl
@[simp] theorem add_4 (n : Nat) : n + 4 + 1 = n + 5 := rfl
@[simp] theorem add_5 (n : Nat) : n + 5 + 1 = n + 6 := rfl
@[simp] theorem add_6 (n : Nat) : n + 6 + 1 = n + 7 := rfl
@[simp] theorem add_7 (n : Nat) : n + 7 + 1 = n + 8 := rfl
@[simp] theorem add_8 (n : Nat) : n + 8 + 1 = n + 9 := rfl
@[simp] theorem add_9 (n : Nat) : n + 9 + 1 = n + 10 := rfl
@[simp] theorem add_10 (n : Nat) : n + 10 + 1 = n + 11 := rfl
@[simp] theorem add_11 (n : Nat) : n + 11 + 1 = n + 12 := rfl
@[simp] theorem add_12 (n : Nat) : n + 12 + 1 = n + 13 := rfl
@[simp] theorem add_13 (n : Nat) : n + 13 + 1 = n + 14 := rfl
@[simp] theorem add_14 (n : Nat) : n + 14 + 1 = n + 15 := rfl
@[simp] theorem add_15 (n : Nat) : n + 15 + 1 = n + 16 := rfl
@[simp] theorem add_16 (n : Nat) : n + 16 + 1 = n + 17 := rfl
@[simp] theorem add_17 (n : Nat) : n + 17 + 1 = n + 18 := rfl
@[simp] theorem add_18 (n : Nat) : n + 18 + 1 = n + 19 := rfl
@[simp] theorem add_19 (n : Nat) : n + 19 + 1 = n + 20 := rfl
@[simp] theorem add_20 (n : Nat) : n + 20 + 1 = n + 21 := rfl
@[simp] theorem add_21 (n : Nat) : n + 21 + 1 = n + 22 := rfl
@[simp] theorem add_22 (n : Nat) : n + 22 + 1 = n + 23 := rfl
@[simp] theorem add_23 (n : Nat) : n + 23 + 1 = n + 24 := rfl
@[simp] theorem add_24 (n : Nat) : n + 24 + 1 = n + 25 := rfl
@[simp] theorem lt_self_add (n k : Nat) : n < n + k ↔ 0 < k := by omega
@[simp] theorem self_ne_add (n k : Nat) : n = n + k ↔ k = 0 := by omega
@[simp] theorem add_ne_self (n k : Nat) : n + k = n ↔ k = 0 := by omega
@[simp] theorem lt_far' {a n k : Nat} (h : a < n) : (a < n + k) = True := by simp; omega
theorem lt_far {a n k : Nat} (h : a < n) : a < n + k := Nat.lt_of_lt_of_le h (Nat.le_add_right _ _)
theorem ne_far {a n k : Nat} (h : a < n) : ¬ a = n + k := fun e => by omega
theorem ne_far' {a n k : Nat} (h : a < n) : ¬ n + k = a := fun e => by omega
theorem ne_at {a n : Nat} (h : a < n) : ¬ a = n := fun e => by omega
theorem ne_at' {a n : Nat} (h : a < n) : ¬ n = a := fun e => by omega

theorem lt_of_get {h : H} {b : Nat} {x : Blk} (hb : hget h b = some x) : b < h.size := (Array.getElem?_eq_some_iff.1 (show h[b]? = _ from hb)).1

/-- What is left as it was: all that was there, but for some. -/
def Keeps (h h' : H) (S : Nat → Prop) : Prop := h.size ≤ h'.size ∧ ∀ b, b < h.size → ¬ S b → hget h' b = hget h b

theorem Keeps.refl (h : H) (S : Nat → Prop) : Keeps h h S := ⟨Nat.le_refl _, fun _ _ _ => rfl⟩
theorem Keeps.trans {h h1 h2 : H} {S : Nat → Prop} (a : Keeps h h1 S) (b : Keeps h1 h2 S) : Keeps h h2 S :=
  ⟨Nat.le_trans a.1 b.1, fun x hx hs => (b.2 x (Nat.lt_of_lt_of_le hx a.1) hs).trans (a.2 x hx hs)⟩
theorem Keeps.push {h h1 : H} {S : Nat → Prop} (a : Keeps h h1 S) (x : Blk) : Keeps h (h1.push x) S :=
  ⟨by have := a.1; simp; omega, fun b hb hs => (push_old (Nat.lt_of_lt_of_le hb a.1)).trans (a.2 b hb hs)⟩
theorem Keeps.row {h h1 : H} {S : Nat → Prop} (a : Keeps h h1 S) (cs : List Value) (es : Nat) (an : List Nat) : Keeps h (newRow h1 cs es an) S := a.push _
theorem Keeps.set {h h1 : H} {S : Nat → Prop} (a : Keeps h h1 S) {b : Nat} (hb : b < h.size → S b) (x : Blk) : Keeps h (h1.setIfInBounds b x) S :=
  ⟨by have := a.1; simpa using this, fun c hc hs => (set_other (fun e => hs (by subst e; exact hb hc))).trans (a.2 c hc hs)⟩
theorem Keeps.set_new {h h1 : H} {S : Nat → Prop} {b : Nat} (a : Keeps h h1 S) (hb : h.size ≤ b) (x : Blk) : Keeps h (h1.setIfInBounds b x) S := a.set (fun q => absurd q (Nat.not_lt.2 hb)) x
theorem Keeps.set_may {h h1 : H} {S : Nat → Prop} {b : Nat} (a : Keeps h h1 S) (hb : S b) (x : Blk) : Keeps h (h1.setIfInBounds b x) S := a.set (fun _ => hb) x
theorem Keeps.get {h h' : H} {S : Nat → Prop} (a : Keeps h h' S) {b : Nat} {x : Blk} (hb : hget h b = some x) (hs : ¬ S b) : hget h' b = some x := by
  rw [a.2 b (lt_of_get hb) hs]; exact hb
theorem Keeps.weak {h h' : H} {S S' : Nat → Prop} (a : Keeps h h' S) (hs : ∀ b, S b → S' b) : Keeps h h' S' := ⟨a.1, fun b hb h => a.2 b hb fun q => h (hs b q)⟩
/-- What was new is of no concern to who came before. -/
theorem Keeps.past {h h1 h2 : H} {S : Nat → Prop} (a : Keeps h h1 S) (b : Keeps h1 h2 fun x => S x ∨ h.size ≤ x) : Keeps h h2 S :=
  ⟨Nat.le_trans a.1 b.1, fun x hx hs => (b.2 x (Nat.lt_of_lt_of_le hx a.1) (fun q => q.elim hs (fun q => Nat.lt_irrefl _ (Nat.lt_of_lt_of_le hx q)))).trans (a.2 x hx hs)⟩

theorem wrap_in {n : Int} (h1 : -9223372036854775808 ≤ n) (h2 : n ≤ 9223372036854775807) : IntKind.i64.wrap n = n := IntWalk.i64_in n ⟨h1, h2⟩

end Go.Ev
