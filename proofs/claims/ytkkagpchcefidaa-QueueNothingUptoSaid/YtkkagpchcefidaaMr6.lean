/- Several texts in one: Qb0, Ev19, Ev20, Ev21, Qd0, Qc0, Qc1, Qc2. -/
import Derived.ChangeArms
import Derived.Test.YtkkagpchcefidaaMr5

/- The library's lock in this program; the table of the seat's functions; the calls of the evaluator are the program's. -/
set_option linter.unusedSimpArgs false
set_option linter.unusedVariables false
namespace Go.Proofs.Ytkkagpchcefidaa
open Go.Ev

abbrev muLink : Go.Conc.Locks.MuLink := { lock := 59, unlock := 60, ilock := 68, iunlock := 69, lockSlow := 75, unlockSlow := 78, disable := 71, enable := 73, acquire := 74, relMerge := 76, cas32 := 72, add32 := 77, tMutex := 57, tIMutex := 55, tPMutex := 130, tPIMutex := 132, tPI32 := 134, tUP := 136, tNoCopy := 52, tU32 := 53 }
theorem muLib : Go.Conc.Locks.MuLib Try.prog muLink :=
  ⟨Try.func59, Try.func60, Try.func68, Try.func69, Try.func71, Try.func73, Try.func74, Try.func76, Try.func72, Try.func77, Try.underlying55, Try.runUnderlying55, Try.sizeOf55, Try.isAgg55, Try.zeroValue55, Try.underlying57, Try.runUnderlying57, Try.sizeOf57, Try.isAgg57, Try.zeroValue57, Try.underlying130, Try.runUnderlying130, Try.sizeOf130, Try.isAgg130, Try.zeroValue130, Try.underlying132, Try.runUnderlying132, Try.sizeOf132, Try.isAgg132, Try.zeroValue132, Try.underlying134, Try.runUnderlying134, Try.sizeOf134, Try.isAgg134, Try.zeroValue134, Try.underlying136, Try.runUnderlying136, Try.sizeOf136, Try.isAgg136, Try.zeroValue136, Try.underlying52, Try.runUnderlying52, Try.sizeOf52, Try.isAgg52, Try.zeroValue52, Try.underlying21, Try.runUnderlying21, Try.sizeOf21, Try.isAgg21, Try.zeroValue21, (by kernel_rfl)⟩

def X : FuncId → Option (List Value → H → Res)
  | 59 => some (flipX 0 1)
  | 60 => some (flipX 1 0)
  | _ => none
def XD : FuncId → Option (List Value → H → Res)
  | 60 => some (flipX 1 0)
  | _ => none

theorem X_ok : XOk Try.prog X := by
  intro f x h
  unfold X at h
  split at h <;> cases h
  · exact lock_ok muLib
  · exact unlock_ok muLib

theorem XD_ok : CallDOk Try.prog (cfX XD) := by
  intro f args h r h' e
  have e' : (fun g args h => if g = muLink.unlock then flipX 1 0 args h else none : CF) f args h = some (r, h') := by
    unfold cfX XD at e
    split at e
    · rename_i x hx
      split at hx <;> cases hx
      simpa using e
    · cases e
  exact unlock_dok muLib f args h r h' e'


def tbl : FuncId → Option AFn
  | 3 => some a3
  | 4 => some a4
  | 5 => some a5
  | 6 => some a6
  | 7 => some a7
  | 8 => some a8
  | 9 => some a9
  | 10 => some a10
  | 11 => some a11
  | 12 => some a12
  | 13 => some a13
  | 14 => some a14
  | 15 => some a15
  | 16 => some a16
  | 17 => some a17
  | 18 => some a18
  | 19 => some a19
  | 20 => some a20
  | 21 => some a21
  | 22 => some a22
  | 23 => some a23
  | 24 => some a24
  | 25 => some a25
  | 26 => some a26
  | 27 => some a27
  | 28 => some a28
  | 29 => some a29
  | 30 => some a30
  | 31 => some a31
  | 32 => some a32
  | 33 => some a33
  | 34 => some a34
  | 35 => some a35
  | 36 => some a36
  | 37 => some a37
  | 38 => some a38
  | 39 => some a39
  | 40 => some a40
  | 41 => some a41
  | 42 => some a42
  | 43 => some a43
  | 44 => some a44
  | 45 => some a45
  | 46 => some a46
  | 47 => some a47
  | 48 => some a48
  | 49 => some a49
  | 50 => some a50
  | 51 => some a51
  | 52 => some a52
  | 53 => some a53
  | 54 => some a54
  | 55 => some a55
  | 56 => some a56
  | 57 => some a57
  | 58 => some a58
  | 61 => some a61
  | 62 => some a62
  | 63 => some a63
  | 64 => some a64
  | 65 => some a65
  | 66 => some a66
  | 67 => some a67
  | 70 => some a70
  | _ => none

theorem tbl_ok : TblOk Try.prog tbl := by
  intro f af h
  unfold tbl at h
  split at h <;> cases h
  · exact ⟨_, _, Try.func3, a3_ok⟩
  · exact ⟨_, _, Try.func4, a4_ok⟩
  · exact ⟨_, _, Try.func5, a5_ok⟩
  · exact ⟨_, _, Try.func6, a6_ok⟩
  · exact ⟨_, _, Try.func7, a7_ok⟩
  · exact ⟨_, _, Try.func8, a8_ok⟩
  · exact ⟨_, _, Try.func9, a9_ok⟩
  · exact ⟨_, _, Try.func10, a10_ok⟩
  · exact ⟨_, _, Try.func11, a11_ok⟩
  · exact ⟨_, _, Try.func12, a12_ok⟩
  · exact ⟨_, _, Try.func13, a13_ok⟩
  · exact ⟨_, _, Try.func14, a14_ok⟩
  · exact ⟨_, _, Try.func15, a15_ok⟩
  · exact ⟨_, _, Try.func16, a16_ok⟩
  · exact ⟨_, _, Try.func17, a17_ok⟩
  · exact ⟨_, _, Try.func18, a18_ok⟩
  · exact ⟨_, _, Try.func19, a19_ok⟩
  · exact ⟨_, _, Try.func20, a20_ok⟩
  · exact ⟨_, _, Try.func21, a21_ok⟩
  · exact ⟨_, _, Try.func22, a22_ok⟩
  · exact ⟨_, _, Try.func23, a23_ok⟩
  · exact ⟨_, _, Try.func24, a24_ok⟩
  · exact ⟨_, _, Try.func25, a25_ok⟩
  · exact ⟨_, _, Try.func26, a26_ok⟩
  · exact ⟨_, _, Try.func27, a27_ok⟩
  · exact ⟨_, _, Try.func28, a28_ok⟩
  · exact ⟨_, _, Try.func29, a29_ok⟩
  · exact ⟨_, _, Try.func30, a30_ok⟩
  · exact ⟨_, _, Try.func31, a31_ok⟩
  · exact ⟨_, _, Try.func32, a32_ok⟩
  · exact ⟨_, _, Try.func33, a33_ok⟩
  · exact ⟨_, _, Try.func34, a34_ok⟩
  · exact ⟨_, _, Try.func35, a35_ok⟩
  · exact ⟨_, _, Try.func36, a36_ok⟩
  · exact ⟨_, _, Try.func37, a37_ok⟩
  · exact ⟨_, _, Try.func38, a38_ok⟩
  · exact ⟨_, _, Try.func39, a39_ok⟩
  · exact ⟨_, _, Try.func40, a40_ok⟩
  · exact ⟨_, _, Try.func41, a41_ok⟩
  · exact ⟨_, _, Try.func42, a42_ok⟩
  · exact ⟨_, _, Try.func43, a43_ok⟩
  · exact ⟨_, _, Try.func44, a44_ok⟩
  · exact ⟨_, _, Try.func45, a45_ok⟩
  · exact ⟨_, _, Try.func46, a46_ok⟩
  · exact ⟨_, _, Try.func47, a47_ok⟩
  · exact ⟨_, _, Try.func48, a48_ok⟩
  · exact ⟨_, _, Try.func49, a49_ok⟩
  · exact ⟨_, _, Try.func50, a50_ok⟩
  · exact ⟨_, _, Try.func51, a51_ok⟩
  · exact ⟨_, _, Try.func52, a52_ok⟩
  · exact ⟨_, _, Try.func53, a53_ok⟩
  · exact ⟨_, _, Try.func54, a54_ok⟩
  · exact ⟨_, _, Try.func55, a55_ok⟩
  · exact ⟨_, _, Try.func56, a56_ok⟩
  · exact ⟨_, _, Try.func57, a57_ok⟩
  · exact ⟨_, _, Try.func58, a58_ok⟩
  · exact ⟨_, _, Try.func61, a61_ok⟩
  · exact ⟨_, _, Try.func62, a62_ok⟩
  · exact ⟨_, _, Try.func63, a63_ok⟩
  · exact ⟨_, _, Try.func64, a64_ok⟩
  · exact ⟨_, _, Try.func65, a65_ok⟩
  · exact ⟨_, _, Try.func66, a66_ok⟩
  · exact ⟨_, _, Try.func67, a67_ok⟩
  · exact ⟨_, _, Try.func70, a70_ok⟩

abbrev cf (F : Nat) : CF := evFn X XD tbl F

theorem cf_ok (F : Nat) : CallOk Try.prog (cf F) := evFn_sound (Checked.mixed Try.checked) tbl_ok X_ok XD_ok F

theorem cf_step {F : Nat} {f : FuncId} {args : List Value} {h : H} {a : AFn} (hX : X f = none) (ht : tbl f = some a) (hl : args.length ≤ a.ntmps) :
    cf (F + 1) f args h = evC F (cf F) a.body (endK (cfX XD) a.results) noK (endK (cfX XD) a.results) (envOf 0 args) h [] := by
  simp only [cf, evFn, hX, ht, if_pos hl]
  rfl

theorem cf_X {F : Nat} {f : FuncId} {args : List Value} {h : H} {x : List Value → H → Res} (hX : X f = some x) : cf (F + 1) f args h = x args h := by
  simp only [cf, evFn, hX]

end Go.Proofs.Ytkkagpchcefidaa

/- Ev19: what is left as it was, by lists of blocks; a rule for loops; small equations. -/
set_option linter.unusedSimpArgs false
set_option linter.unusedVariables false
namespace Go.Ev

/-- What is left as it was: all that was there, but for the blocks of a list. -/
def Kept (h h' : H) (L : List Nat) : Prop := h.size ≤ h'.size ∧ ∀ b, b < h.size → b ∉ L → hget h' b = hget h b

theorem Kept.refl (h : H) (L : List Nat) : Kept h h L := ⟨Nat.le_refl _, fun _ _ _ => rfl⟩
theorem Kept.trans {h h1 h2 : H} {L : List Nat} (a : Kept h h1 L) (b : Kept h1 h2 L) : Kept h h2 L :=
  ⟨Nat.le_trans a.1 b.1, fun x hx hs => (b.2 x (Nat.lt_of_lt_of_le hx a.1) hs).trans (a.2 x hx hs)⟩
theorem Kept.get {h h' : H} {L : List Nat} (a : Kept h h' L) {b : Nat} (hb : b < h.size) (hs : b ∉ L) : hget h' b = hget h b := a.2 b hb hs
theorem Kept.weak {h h' : H} {L M : List Nat} (a : Kept h h' L) (hs : ∀ b ∈ L, b ∈ M) : Kept h h' M := ⟨a.1, fun b hb h => a.2 b hb fun q => h (hs b q)⟩
theorem Kept.of_nil {h h' : H} {L : List Nat} (a : Kept h h' []) : Kept h h' L := a.weak nofun

/-- A loop: a relation of what is left to do, the slots and the memory. -/
theorem loop_rule {cf : CF} {F0 : Nat} {live : List Nat} {c : ACode} {ke : Nat → K} {kr : K} {ds : Ds} {Q : Value → H → Prop} (I : Nat → Env → H → Prop)
    (step : ∀ m s h again, I m s h → (∀ m' s' h', m' < m → I m' s' h' → Ans (again s' h' ds) Q) → Ans (evC F0 cf c (keepK live again) ke kr s h ds) Q) :
    ∀ fuel m s h, m < fuel → I m s h → Ans (loopK F0 cf live c ke kr fuel s h ds) Q := by
  intro fuel
  induction fuel with
  | zero => intro m s h hm; omega
  | succ n ih =>
    intro m s h hm hi
    rw [loopK_succ]
    exact step m s h _ hi fun m' s' h' hlt hi' => ih m' s' h' (by omega) hi'

theorem wrap_id {n : Int} (h1 : -9223372036854775808 ≤ n) (h2 : n < 9223372036854775808) : IntKind.i64.wrap n = n := wrap_in h1 (by omega)

/-! ### decisions by arithmetic (for simp with omega as its discharger) -/
theorem eqT {a b : Int} (h : a = b) : (a == b) = true := by simpa using h
theorem eqF {a b : Int} (h : ¬ a = b) : (a == b) = false := by simpa using h
theorem neT {a b : Int} (h : ¬ a = b) : (a != b) = true := by simpa using h
theorem neF {a b : Int} (h : a = b) : (a != b) = false := by simpa using h
theorem ltT {a b : Int} (h : a < b) : (a < b) = True := by simpa using h
theorem ltF {a b : Int} (h : ¬ a < b) : (a < b) = False := by simpa using h
theorem leT {a b : Int} (h : a ≤ b) : (a ≤ b) = True := by simpa using h
theorem leF {a b : Int} (h : ¬ a ≤ b) : (a ≤ b) = False := by simpa using h
theorem nltT {a b : Nat} (h : a < b) : (a < b) = True := by simpa using h
theorem nltF {a b : Nat} (h : ¬ a < b) : (a < b) = False := by simpa using h
theorem nleT {a b : Nat} (h : a ≤ b) : (a ≤ b) = True := by simpa using h
theorem nleF {a b : Nat} (h : ¬ a ≤ b) : (a ≤ b) = False := by simpa using h
theorem nneT {a b : Nat} (h : a = b) : (a = b) = True := by simpa using h
theorem nneF {a b : Nat} (h : ¬ a = b) : (a = b) = False := by simpa using h

@[simp] theorem set_push {h : H} {x y : Blk} {b : Nat} (hb : b = h.size) : Array.setIfInBounds (h.push x) b y = h.push y := by
  subst hb
  apply Array.ext
  · simp
  · intro i h1 h2
    simp only [Array.size_setIfInBounds, Array.size_push] at h1
    rw [Array.getElem_setIfInBounds]
    · by_cases e : h.size = i
      · subst e; simp
      · rw [if_neg e, Array.getElem_push_lt (by omega), Array.getElem_push_lt (by omega)]
    · simpa using h1
@[simp] theorem set_row {h : H} {cs : List Value} {es b : Nat} {an : List Nat} {y : Blk} (hb : b = h.size) : Array.setIfInBounds (newRow h cs es an) b y = h.push y := set_push hb
theorem push_row {h : H} {cs : List Value} {es : Nat} {an : List Nat} : h.push (.cells cs es true an) = newRow h cs es an := rfl
attribute [simp] push_row

/-! ### drawn regions in which nothing is read beside a write: no record is kept -/
def evE (cf : CF) (l : List DOp) (s : Env) (h : H) (kn : K) (keep : List Nat) (ds : Ds) : Res := goD cf l s h fun _ s' h' => kn (s'.keep keep) h' ds
def nextE (x : Option (Value × H)) (cf : CF) (d : Option Nat) (l : List DOp) (s : Env) (kn : K) (keep : List Nat) (ds : Ds) : Res := match x with
  | some (v, h') => evE cf l (setD s d v) h' kn keep ds
  | none => none
def guardE (v : Value) (b : Bool) (ac : AAct) (cf : CF) (d : Option Nat) (l : List DOp) (e s : Env) (h : H) (kn : K) (keep : List Nat) (ds : Ds) : Res := match v with
  | .bool c => bif c == b then nextE (evAct cf ac e h) cf d l s kn keep ds else evE cf l (setD s d unset) h kn keep ds
  | .tuple ⟨[]⟩ => evE cf l (setD s d unset) h kn keep ds
  | _ => none
section
variable {cf : CF} {F : Nat} {s e : Env} {h : H} {kn kr : K} {ke : Nat → K} {ds : Ds} {keep : List Nat} {d : Option Nat} {v : Value} {l : List DOp}
@[simp high] theorem evC_regionE {ops : List DOp} : evC F cf (.regionD ops [] keep) kn ke kr s h ds = evE cf ops s h kn keep ds := by
  show evRegionD cf ops [] s h _ = _
  unfold evE evRegionD
  rw [goD_eq]
  cases trace cf ops s h with
  | none => rfl
  | some p => obtain ⟨a, b, c⟩ := p; simp [chks]
@[simp] theorem evE_nil : evE cf [] s h kn keep ds = kn (s.keep keep) h ds := nr rfl
@[simp] theorem evE_op {i : Nat} {o : AOp} {sl : List Nat} : evE cf (⟨i, ⟨d, none, .op o⟩, sl⟩ :: l) s h kn keep ds = nextE (evOp o (s.keep sl) h) cf d l s kn keep ds := by
  simp only [evE, goD, wantedA, evAct, nextE]
  cases evOp o (s.keep sl) h with
  | none => rfl
  | some p => rfl
@[simp] theorem evE_call {i : Nat} {f : Operand} {args : List Operand} {sl : List Nat} : evE cf (⟨i, ⟨d, none, .call f args⟩, sl⟩ :: l) s h kn keep ds = nextE (callV cf (aeval (s.keep sl) f) (args.map (aeval (s.keep sl))) h) cf d l s kn keep ds := by
  have e : evAct cf (.call f args) (s.keep sl) h = callV cf (aeval (s.keep sl) f) (args.map (aeval (s.keep sl))) h := by
    simp only [evAct, callV]
    split <;> (rename_i hf; split <;> simp_all)
  rw [← e]
  simp only [evE, goD, wantedA, nextE]
  cases evAct cf (.call f args) (s.keep sl) h with
  | none => rfl
  | some p => rfl
@[simp] theorem evE_guard {i t : Nat} {b : Bool} {ac : AAct} {sl : List Nat} : evE cf (⟨i, ⟨d, some (t, b), ac⟩, sl⟩ :: l) s h kn keep ds = guardE ((s.keep sl).get t) b ac cf d l (s.keep sl) s h kn keep ds := by
  simp only [evE, goD, wantedA, guardE]
  generalize (s.keep sl).get t = u
  cases u with
  | bool c =>
    cases hcb : c == b with
    | true =>
      simp only [hcb, cond_true, nextE]
      cases evAct cf ac (s.keep sl) h with
      | none => rfl
      | some p => rfl
    | false => simp [hcb, evE]
  | tuple vs =>
    obtain ⟨l'⟩ := vs
    cases l' with
    | nil => simp [evE]
    | cons _ _ => rfl
  | _ => rfl
@[simp] theorem nextE_some {h' : H} : nextE (some (v, h')) cf d l s kn keep ds = evE cf l (setD s d v) h' kn keep ds := nr rfl
@[simp] theorem guardE_tt {ac : AAct} : guardE (.bool true) true ac cf d l e s h kn keep ds = nextE (evAct cf ac e h) cf d l s kn keep ds := nr rfl
@[simp] theorem guardE_ff {ac : AAct} : guardE (.bool false) false ac cf d l e s h kn keep ds = nextE (evAct cf ac e h) cf d l s kn keep ds := nr rfl
@[simp] theorem guardE_tf {ac : AAct} : guardE (.bool true) false ac cf d l e s h kn keep ds = evE cf l (setD s d unset) h kn keep ds := nr rfl
@[simp] theorem guardE_ft {ac : AAct} : guardE (.bool false) true ac cf d l e s h kn keep ds = evE cf l (setD s d unset) h kn keep ds := nr rfl
@[simp] theorem guardE_un {b : Bool} {ac : AAct} : guardE unset b ac cf d l e s h kn keep ds = evE cf l (setD s d unset) h kn keep ds := nr rfl
theorem Ans.nextE {x : Option (Value × H)} {Q R : Value → H → Prop} (a : Ans x Q) (hk : ∀ v h, Q v h → Ans (evE cf l (setD s d v) h kn keep ds) R) : Ans (Ev.nextE x cf d l s kn keep ds) R := by
  obtain ⟨v, h, rfl, q⟩ := a; exact hk v h q
theorem evAct_call {f : Operand} {args : List Operand} : evAct cf (.call f args) s h = callV cf (aeval s f) (args.map (aeval s)) h := by
  simp only [evAct, callV]
  split <;> (rename_i hf; split <;> simp_all)
attribute [simp] evAct_call
theorem Ans.nextD {x : Option (Value × H)} {Q R : Value → H → Prop} {ts : List TR} {q : DK} (a : Ans x Q) (hk : ∀ v h', Q v h' → Ans (evD cf l (ts ++ [⟨e, h, true, v⟩]) (setD s d v) h' q) R) : Ans (Ev.nextD x cf d l ts e s h q) R := by
  obtain ⟨v, h, rfl, q⟩ := a; exact hk v h q
end

/-- An append whose source is known. -/
def appV (src : Option (Nat × List Value)) (h : H) (es bytes : Nat) (d : Value) : Option (Value × H) := match src with
  | some (n, new) => if new.all oneCell = true then appendTo h es bytes d n new else none
  | none => none
@[simp ↓ high] theorem evOp_append {str : Bool} {es bytes : Nat} {d x : Operand} {s : Env} {h : H} : evOp (.append str es bytes d x) s h = if isText (aeval s x) = str then appV (srcOf h es (aeval s x)) h es bytes (aeval s d) else none := nr rfl
@[simp] theorem appV_some {n : Nat} {new : List Value} {h : H} {es bytes : Nat} {d : Value} : appV (some (n, new)) h es bytes d = if new.all oneCell = true then appendTo h es bytes d n new else none := nr rfl

/-! ### the looks again, one by one -/
def chkA (cf : CF) (d : Option DOp) (t : Option TR) (ts : List TR) (h1 : H) (ps : List Nat) : Bool := match d, t with
  | some d, some t => ps.all fun p => chk1 cf d t (hAt ts h1 p)
  | _, _ => false
def chkV (x : Option (Value × H)) (w : Value) : Bool := match x with
  | some (v, _) => sameV v w
  | none => false
def hOf (x : Option TR) (h1 : H) : H := match x with
  | some t => t.hin
  | none => h1
section
variable {cf : CF} {ops : List DOp} {ts : List TR} {h h1 : H} {wins : List (Nat × List Nat)} {keep : List Nat} {kn : K} {ds : Ds} {s e : Env}
theorem dk_go : DK.go cf ⟨ops, wins, keep, kn, ds⟩ ts s h = if chks cf ops ts h wins = true then kn (s.keep keep) h ds else none := nr rfl
theorem chks_nil : chks cf ops ts h1 [] = true := nr rfl
theorem chks_cons {x : Nat} {ps : List Nat} {r : List (Nat × List Nat)} : chks cf ops ts h1 ((x, ps) :: r) = (chkA cf ops[x]? ts[x]? ts h1 ps && chks cf ops ts h1 r) := by
  simp only [chks, chkA]
  rcases ops[x]? with _ | d <;> rcases ts[x]? with _ | t <;> rfl
theorem chkA_nil {d : DOp} {t : TR} : chkA cf (some d) (some t) ts h1 [] = true := nr rfl
theorem chkA_cons {d : DOp} {t : TR} {p : Nat} {ps : List Nat} : chkA cf (some d) (some t) ts h1 (p :: ps) = (chk1 cf d t (hAt ts h1 p) && chkA cf (some d) (some t) ts h1 ps) := nr rfl
theorem chk1_no {d : DOp} {v : Value} {h0 : H} : chk1 cf d ⟨e, h0, false, v⟩ h = true := nr rfl
theorem chk1_yes {i : Nat} {dst : Option Nat} {g : Option (Nat × Bool)} {ac : AAct} {sl : List Nat} {v : Value} {h0 : H} : chk1 cf ⟨i, ⟨dst, g, ac⟩, sl⟩ ⟨e, h0, true, v⟩ h = chkV (evAct cf ac e h) v := nr rfl
theorem chkV_some {v w : Value} : chkV (some (v, h)) w = sameV v w := nr rfl
theorem hAt_eq {k : Nat} : hAt ts h1 k = hOf ts[k]? h1 := nr rfl
theorem hOf_some {h0 : H} {b : Bool} {v : Value} : hOf (some ⟨e, h0, b, v⟩) h1 = h0 := nr rfl
theorem hOf_none : hOf none h1 = h1 := nr rfl
end

/-- How long a slice is. -/
def lenV : Value → Option Value
  | .slice none 0 0 => some (.int .i64 0)
  | .slice (some _) n _ => some (.int .i64 n)
  | _ => none
@[simp] theorem lenV_nil : lenV (.slice none 0 0) = some (.int .i64 0) := nr rfl
@[simp] theorem lenV_some {a : Addr} {n c : Nat} : lenV (.slice (some a) n c) = some (.int .i64 n) := nr rfl
@[simp ↓ high] theorem evOp_lenSlice {x : Operand} {s : Env} {h : H} : evOp (.lenSlice x) s h = (lenV (aeval s x)).map fun v => (v, h) := by
  show (match aeval s x with
    | .slice none 0 0 => some (Value.int .i64 0, h)
    | .slice (some _) n _ => some (.int .i64 n, h)
    | _ => none) = _
  unfold lenV
  split <;> rfl

theorem fn_id {α : Sort _} {β : Sort _} (f : α → β) {a b : α} (h : a = b) : f a = f b := by rw [h]

end Go.Ev

/- Ev20: what is handed in, cell by cell, as the sealed abstract heap holds it. -/
set_option linter.unusedSimpArgs false
set_option linter.unusedVariables false
namespace Go.Ev

inductive Ty where
  | int (k : IntKind)
  | bool
  | str
  | slice (e : Ty)
  | struct (fs : List Ty)

mutual
def Ty.size : Ty → Nat
  | .int _ => 1
  | .bool => 1
  | .str => 1
  | .slice _ => 1
  | .struct fs => Ty.sizes fs
def Ty.sizes : List Ty → Nat
  | [] => 0
  | f :: fs => f.size + Ty.sizes fs
end

mutual
/-- The program's type is laid out so. -/
def tyOk (P : Program) : Ty → TypeId → Bool
  | .int k, t => match P.underlying t with
    | some (.int k') => k == k'
    | _ => false
  | .bool, t => match P.underlying t with
    | some .bool => true
    | _ => false
  | .str, t => match P.underlying t with
    | some .string => true
    | _ => false
  | .slice e, t => match P.underlying t with
    | some (.slice el) => P.cellsOf el == e.size && decide (0 < e.size) && tyOk P e el
    | _ => false
  | .struct fs, t => match P.underlying t with
    | some (.struct fields) => P.cellsOf t == Ty.sizes fs && fieldsOk P fs fields.toList 0
    | _ => false
def fieldsOk (P : Program) : List Ty → List Field → Nat → Bool
  | [], [], _ => true
  | y :: ys, f :: fs, o => f.offset == o && P.cellsOf f.type == y.size && tyOk P y f.type && fieldsOk P ys fs (o + y.size)
  | _, _, _ => false
end

mutual
/-- Cells of such a type. -/
def CellsT (h : H) : Ty → List Value → Prop
  | .int k, cs => ∃ n, cs = [.int k n] ∧ (Lit.int k n).wf = true
  | .bool, cs => ∃ b, cs = [.bool b]
  | .str, cs => ∃ s : ByteArray, cs = [.string s] ∧ s.size ≤ maxLen
  | .slice e, cs => cs = [.slice none 0 0] ∨ cs = [.slice (some ⟨0, 0, some 0⟩) 0 0] ∨
      ∃ b o n c bs, cs = [.slice (some ⟨b, o, none⟩) n c] ∧ n ≤ c ∧ c ≤ maxLen ∧ b < h.size ∧ hget h b = some (.cells bs 0 false []) ∧ ∀ i, i < n → o + i * e.size + e.size ≤ bs.length ∧ CellsT h e ((bs.drop (o + i * e.size)).take e.size)
  | .struct fs, cs => StructT h fs cs
def StructT (h : H) : List Ty → List Value → Prop
  | [], cs => cs = []
  | f :: fs, cs => f.size ≤ cs.length ∧ CellsT h f (cs.take f.size) ∧ StructT h fs (cs.drop f.size)
end

theorem cells_row {w : World} {base : Nat} {a : Addr} {n : Nat} {cs : List Value} (h : w.cells? base a n = some cs) (hn : 0 < n) :
    ∃ (arr : Array Value) (T : TypeId) (fr : Nat × Nat), w.heap[a.block]? = some (.cells arr T fr) ∧ a.spot = none ∧ a.off + n ≤ arr.size ∧ cs = (arr.toList.drop a.off).take n := by
  obtain ⟨_, hl, hi⟩ := World.cells?_some h
  have h0 := hi 0 hn
  have ha : a.add 0 = a := by simp [Addr.add]
  rw [ha] at h0
  have hs0 : ∃ v, cs[0]? = some v := ⟨cs[0]'(by omega), List.getElem?_eq_getElem (by omega)⟩
  obtain ⟨v0, hv0⟩ := hs0
  rw [hv0] at h0
  unfold World.cell? at h0
  split at h0
  · rename_i c T fr hc
    have hsp : a.spot = none := by
      cases hsp : a.spot with
      | none => rfl
      | some q => rw [hsp] at h0; simp at h0
    have hcell : ∀ i, i < n → c[a.off + i]? = cs[i]? := by
      intro i hi'
      rw [← hi i hi']
      unfold World.cell?
      by_cases hz : i = 0
      · subst hz; rw [ha, hc]; simp [hsp]
      · simp [Addr.add, hz, hc]
    have hsz : a.off + n ≤ c.size := by
      have hlast : cs[n - 1]? = some (cs[n - 1]'(by omega)) := List.getElem?_eq_getElem (by omega)
      have := hcell (n - 1) (by omega)
      rw [hlast] at this
      have := (Array.getElem?_eq_some_iff.1 this).1
      omega
    refine ⟨c, T, fr, hc, hsp, hsz, ?_⟩
    apply List.ext_getElem?
    intro i
    by_cases hi' : i < n
    · rw [← hcell i hi', List.getElem?_take, if_pos hi', List.getElem?_drop, Array.getElem?_toList]
    · rw [List.getElem?_eq_none (by omega), List.getElem?_take, if_neg hi']
  · cases h0

section
variable {HT : Type} {enc : TypeId × Value → HT} {P : Program} {W : World} {base : Nat} {held : Bool}

mutual
theorem open_cells : ∀ (y : Ty) (t : TypeId), tyOk P y t = true → ∀ {fuel : Nat} {cs : List Value} {x : DataW HT × List MemPlace}, DataW.trod enc P W base (fun _ => true) held fuel t cs = some x →
    CellsT (absH W) y (cs.map (absV W.heap.size)) ∧ cs.length = y.size
  | .int k, t, hy, fuel, cs, x, h => by
    unfold tyOk at hy
    split at hy
    · rename_i k' ht
      have hk : k = k' := by simpa using hy
      subst hk
      obtain ⟨n, rfl, _, hw⟩ := DataW.trod_int ht h
      exact ⟨by simp only [CellsT]; exact ⟨n, rfl, hw⟩, rfl⟩
    · cases hy
  | .bool, t, hy, fuel, cs, x, h => by
    unfold tyOk at hy
    split at hy
    · rename_i ht
      obtain ⟨b, rfl, _⟩ := DataW.trod_bool ht h
      exact ⟨by simp only [CellsT]; exact ⟨b, rfl⟩, rfl⟩
    · cases hy
  | .str, t, hy, fuel, cs, x, h => by
    unfold tyOk at hy
    split at hy
    · rename_i ht
      obtain ⟨s, rfl, _, hw⟩ := DataW.trod_string ht h
      exact ⟨by simp only [CellsT]; exact ⟨s, rfl, hw⟩, rfl⟩
    · cases hy
  | .slice e, t, hy, fuel, cs, x, h => by
    unfold tyOk at hy
    split at hy
    · rename_i el ht
      simp only [Bool.and_eq_true, beq_iff_eq, decide_eq_true_eq] at hy
      obtain ⟨⟨hsz, hpos⟩, hel⟩ := hy
      rcases DataW.trod_slice ht h with ⟨rfl, _⟩ | ⟨a, len, cap, elems, rest, n, _, rfl, _, _, hlc, hcm, hlen, hE, hR, _⟩
      · exact ⟨by simp only [CellsT]; exact .inl rfl, rfl⟩
      · refine ⟨?_, rfl⟩
        simp only [CellsT]
        by_cases hc0 : cap = 0
        · subst hc0
          have : len = 0 := by omega
          subst this
          exact .inr (.inl rfl)
        · rw [hsz] at hE hR
          obtain ⟨hrl, hR⟩ := hR rfl
          have hrow : ∀ i, i < cap → ∃ row, W.cells? base (a.add (i * e.size)) e.size = some row := by
            intro i hi
            by_cases hil : i < len
            · have := hE i hil
              obtain ⟨q, hq⟩ : ∃ q, elems[i]? = some q := ⟨_, List.getElem?_eq_getElem (by omega)⟩
              rw [hq] at this
              obtain ⟨row, h1, _⟩ := Option.bind_eq_some_iff.1 this
              exact ⟨row, h1⟩
            · have := hR (i - len) (by omega)
              obtain ⟨q, hq⟩ : ∃ q, rest[i - len]? = some q := ⟨_, List.getElem?_eq_getElem (by omega)⟩
              rw [hq, show len + (i - len) = i by omega] at this
              obtain ⟨row, h1, _⟩ := Option.bind_eq_some_iff.1 this
              exact ⟨row, h1⟩
          obtain ⟨row0, h0⟩ := hrow 0 (by omega)
          rw [Nat.zero_mul, show a.add 0 = a from by simp [Addr.add]] at h0
          obtain ⟨arr, T, fr, hh, hsp, _, _⟩ := cells_row h0 hpos
          obtain ⟨b, o, sp⟩ := a
          simp only at hsp hh
          subst hsp
          have hbl : b < W.heap.size := (Array.getElem?_eq_some_iff.1 hh).1
          refine .inr (.inr ⟨b, o, len, cap, arr.toList.map (absV W.heap.size), ?_, hlc, hcm, by rw [absH_size]; exact hbl, ?_, ?_⟩)
          · simp only [List.map_cons, List.map_nil, absV]
            by_cases hl0 : len = 0
            · subst hl0
              cases cap with
              | zero => exact absurd rfl hc0
              | succ cap => simp [absV, hbl]
            · cases len with
              | zero => exact absurd rfl hl0
              | succ len => simp [absV, hbl, hlc]
          · show (W.heap.map (absB W.heap.size))[b]? = _
            rw [Array.getElem?_map, hh]; rfl
          · intro i hi
            obtain ⟨row, hr⟩ := hrow i (by omega)
            obtain ⟨arr', T', fr', hh', _, hsz', hrow'⟩ := cells_row hr hpos
            have hoff : ((⟨b, o, none⟩ : Addr).add (i * e.size)).off = o + i * e.size := by
              by_cases hz : i * e.size = 0
              · simp [Addr.add, hz]
              · simp [Addr.add, hz]
            have hblk : ((⟨b, o, none⟩ : Addr).add (i * e.size)).block = b := by
              by_cases hz : i * e.size = 0
              · simp [Addr.add, hz]
              · simp [Addr.add, hz]
            rw [hblk, hh] at hh'
            simp only [Option.some.injEq, Obj.cells.injEq] at hh'
            obtain ⟨rfl, _, _⟩ := hh'
            rw [hoff] at hsz' hrow'
            have hEi := hE i hi
            obtain ⟨q, hq⟩ : ∃ q, elems[i]? = some q := ⟨_, List.getElem?_eq_getElem (by omega)⟩
            rw [hq, hr] at hEi
            simp only [Option.bind_some] at hEi
            have hrec := (open_cells e el hel hEi).1
            refine ⟨by simpa using hsz', ?_⟩
            rw [hrow'] at hrec
            simpa [List.map_take, List.map_drop] using hrec
    · cases hy
  | .struct fs, t, hy, fuel, cs, x, h => by
    unfold tyOk at hy
    split at hy
    · rename_i fields ht
      simp only [Bool.and_eq_true, beq_iff_eq] at hy
      obtain ⟨hsz, hf⟩ := hy
      obtain ⟨xs, n, _, _, hl, hlen, hi⟩ := DataW.trod_struct ht h
      rw [hsz] at hl
      refine ⟨?_, by simpa [Ty.size] using hl⟩
      simp only [CellsT]
      have := open_fields fs fields.toList 0 hf (fuel := n) (cs := cs) (by omega) (fun i f hif => by
        have hif' : fields[i]? = some f := by simpa using hif
        have := hi i f hif'
        obtain ⟨q, hq⟩ : ∃ q, xs[i]? = some q := ⟨_, List.getElem?_eq_getElem (by
          have := (Array.getElem?_eq_some_iff.1 hif').1
          omega)⟩
        rw [hq] at this
        exact ⟨q, this⟩)
      simpa using this
    · cases hy
theorem open_fields : ∀ (ys : List Ty) (fs : List Field) (o : Nat), fieldsOk P ys fs o = true → ∀ {fuel : Nat} {cs : List Value}, cs.length = o + Ty.sizes ys →
    (∀ (i : Nat) (f : Field), fs[i]? = some f → ∃ x, DataW.trod enc P W base (fun _ => true) held fuel f.type ((cs.drop f.offset).take (P.cellsOf f.type)) = some x) →
    StructT (absH W) ys ((cs.drop o).map (absV W.heap.size))
  | [], [], o, _, fuel, cs, hl, _ => by
    simp only [StructT, Ty.sizes] at hl ⊢
    simp; omega
  | [], _ :: _, _, h, _, _, _, _ => by simp [fieldsOk] at h
  | _ :: _, [], _, h, _, _, _, _ => by simp [fieldsOk] at h
  | y :: ys, f :: fs, o, h, fuel, cs, hl, hx => by
    simp only [fieldsOk, Bool.and_eq_true, beq_iff_eq] at h
    obtain ⟨⟨⟨h1, h2⟩, h3⟩, h4⟩ := h
    simp only [Ty.sizes] at hl
    obtain ⟨x, hx0⟩ := hx 0 f rfl
    rw [h1, h2] at hx0
    have g1 := (open_cells y f.type h3 hx0).1
    have g2 := open_fields ys fs (o + y.size) h4 (fuel := fuel) (cs := cs) (by omega) (fun i g hg => hx (i + 1) g (by simpa using hg))
    simp only [StructT]
    refine ⟨by simp; omega, ?_, ?_⟩
    · simpa [List.map_take, List.map_drop] using g1
    · simpa [List.map_drop, List.drop_drop, Nat.add_comm] using g2
end

mutual
theorem cellsT_plain {h : H} : ∀ (y : Ty) {cs : List Value}, CellsT h y cs → cs.length = y.size ∧ ∀ x ∈ cs, oneCell x = true ∧ sameCell x x = true
  | .int k, cs, hc => by
    simp only [CellsT] at hc
    obtain ⟨n, rfl, _⟩ := hc
    simp [Ty.size, oneCell, sameCell]
  | .bool, cs, hc => by
    simp only [CellsT] at hc
    obtain ⟨n, rfl⟩ := hc
    simp [Ty.size, oneCell, sameCell]
  | .str, cs, hc => by
    simp only [CellsT] at hc
    obtain ⟨n, rfl, _⟩ := hc
    refine ⟨rfl, fun x hx => ?_⟩
    rw [List.mem_singleton] at hx
    subst hx
    exact ⟨rfl, (MapKept.bytes_beq n n).2 rfl⟩
  | .slice e, cs, hc => by
    simp only [CellsT] at hc
    rcases hc with rfl | rfl | ⟨b, o, n, c, bs, rfl, _⟩ <;> simp [Ty.size, oneCell, sameCell]
  | .struct fs, cs, hc => by
    simp only [CellsT] at hc
    have := structT_plain fs hc
    simpa [Ty.size] using this
theorem structT_plain {h : H} : ∀ (ys : List Ty) {cs : List Value}, StructT h ys cs → cs.length = Ty.sizes ys ∧ ∀ x ∈ cs, oneCell x = true ∧ sameCell x x = true
  | [], cs, hc => by
    simp only [StructT] at hc
    subst hc
    simp [Ty.sizes]
  | y :: ys, cs, hc => by
    simp only [StructT] at hc
    obtain ⟨h1, h2, h3⟩ := hc
    obtain ⟨a1, a2⟩ := cellsT_plain y h2
    obtain ⟨b1, b2⟩ := structT_plain ys h3
    refine ⟨by simp [Ty.sizes] at b1 ⊢; omega, fun x hx => ?_⟩
    rw [← List.take_append_drop y.size cs] at hx
    rcases List.mem_append.1 hx with hx | hx
    · exact a2 x hx
    · exact b2 x hx
end

theorem sameL_refl : ∀ (l : List Value), (∀ x ∈ l, sameCell x x = true) → sameL l l = true
  | [], _ => rfl
  | x :: l, h => by
    unfold sameL
    rw [h x (by simp), sameL_refl l fun y hy => h y (by simp [hy])]
    rfl

/-- An argument. -/
theorem open_arg {y : Ty} {t : TypeId} (hy : tyOk P y t = true) {v : Value} {d : DataW HT} {p : List MemPlace} (h : DataW.Trod enc P W base (fun _ => true) held t v d p) : CellsT (absH W) y (v.cells.toList.map (absV W.heap.size)) := by
  obtain ⟨fuel, h⟩ := h
  exact (open_cells y t hy h).1

end

end Go.Ev

/- Ev21: lists in memory: what a slice reads as, by the contents of its row alone; lists that are being built by append. -/
set_option linter.unusedSimpArgs false
set_option linter.unusedVariables false
namespace Go.Ev

theorem ba_self (b : ByteArray) : (b == b) = true := (MapKept.bytes_beq b b).2 rfl
theorem ba_nself (b : ByteArray) : (b != b) = false := by
  show (!(b == b)) = false
  rw [ba_self]; rfl

/-- The contents of a row. -/
def cel (h : H) (b : Nat) : Option (List Value) := match hget h b with
  | some (.cells cs _ _ _) => some cs
  | _ => none

theorem cel_of {h : H} {b : Nat} {cs : List Value} {es : Nat} {lv : Bool} {an : List Nat} (e : hget h b = some (.cells cs es lv an)) : cel h b = some cs := by
  unfold cel; rw [e]
theorem cel_inv {h : H} {b : Nat} {cs : List Value} (e : cel h b = some cs) : ∃ es lv an, hget h b = some (.cells cs es lv an) := by
  unfold cel at e
  split at e
  · rename_i h'
    cases e
    exact ⟨_, _, _, h'⟩
  · cases e
theorem cel_lt {h : H} {b : Nat} {cs : List Value} (e : cel h b = some cs) : b < h.size := by
  obtain ⟨_, _, _, e⟩ := cel_inv e
  exact lt_of_get e
theorem cel_congr {h h' : H} {b : Nat} (e : hget h' b = hget h b) : cel h' b = cel h b := by unfold cel; rw [e]

/-- The contents are as they were, but for some blocks'. -/
def KeptC (h h' : H) (L : List Nat) : Prop := h.size ≤ h'.size ∧ ∀ b, b < h.size → b ∉ L → cel h' b = cel h b
theorem KeptC.refl (h : H) (L : List Nat) : KeptC h h L := ⟨Nat.le_refl _, fun _ _ _ => rfl⟩
theorem KeptC.trans {h h1 h2 : H} {L : List Nat} (a : KeptC h h1 L) (b : KeptC h1 h2 L) : KeptC h h2 L :=
  ⟨Nat.le_trans a.1 b.1, fun x hx hs => (b.2 x (Nat.lt_of_lt_of_le hx a.1) hs).trans (a.2 x hx hs)⟩
theorem KeptC.weak {h h' : H} {L M : List Nat} (a : KeptC h h' L) (hs : ∀ b ∈ L, b ∈ M) : KeptC h h' M := ⟨a.1, fun b hb h => a.2 b hb fun q => h (hs b q)⟩
theorem Kept.c {h h' : H} {L : List Nat} (a : Kept h h' L) : KeptC h h' L := ⟨a.1, fun b hb hn => cel_congr (a.2 b hb hn)⟩

section
variable {α : Type}

/-- A slice reads as these: ok tells where its row may lie, w how many cells an element has, R what they say. -/
def SlR (ok : Nat → Prop) (w : Nat) (R : H → List Value → α → Prop) (h : H) (v : Value) (xs : List α) : Prop :=
  ((v = .slice none 0 0 ∨ v = .slice (some ⟨0, 0, some 0⟩) 0 0) ∧ xs = []) ∨
  ∃ b o c cs, v = .slice (some ⟨b, o, none⟩) xs.length c ∧ xs.length ≤ c ∧ ok b ∧ cel h b = some cs ∧ ∀ (i : Nat) (x : α), xs[i]? = some x → o + i * w + w ≤ cs.length ∧ R h ((cs.drop (o + i * w)).take w) x

variable {ok ok' : Nat → Prop} {w : Nat} {R R' : H → List Value → α → Prop} {h h' : H} {v : Value} {xs : List α} {L : List Nat}

theorem SlR.len (s : SlR ok w R h v xs) : lenV v = some (.int .i64 xs.length) := by
  rcases s with ⟨rfl | rfl, rfl⟩ | ⟨b, o, c, cs, rfl, _⟩ <;> simp [lenV]

theorem SlR.one (s : SlR ok w R h v xs) : oneCell v = true := by
  rcases s with ⟨rfl | rfl, rfl⟩ | ⟨b, o, c, cs, rfl, _⟩ <;> rfl
theorem SlR.vc (s : SlR ok w R h v xs) : vcells v = some [v] := by
  rcases s with ⟨rfl | rfl, rfl⟩ | ⟨b, o, c, cs, rfl, _⟩ <;> rfl
theorem SlR.same (s : SlR ok w R h v xs) : sameCell v v = true := by
  rcases s with ⟨rfl | rfl, rfl⟩ | ⟨b, o, c, cs, rfl, _⟩ <;> simp [sameCell]
theorem SlR.ne_text (s : SlR ok w R h v xs) : isText v = false := by
  rcases s with ⟨rfl | rfl, rfl⟩ | ⟨b, o, c, cs, rfl, _⟩ <;> rfl

theorem SlR.imp (s : SlR ok w R h v xs) (h1 : ∀ b, b < h.size → ok b → ok' b) (h2 : ∀ cs, ∀ x ∈ xs, R h cs x → R' h' cs x) (h3 : ∀ b cs, ok b → cel h b = some cs → cel h' b = some cs) : SlR ok' w R' h' v xs := by
  rcases s with s | ⟨b, o, c, cs, e, hc, hk, hb, hi⟩
  · exact .inl s
  · refine .inr ⟨b, o, c, cs, e, hc, h1 b (cel_lt hb) hk, h3 b cs hk hb, fun i x hx => ⟨(hi i x hx).1, h2 _ _ (List.mem_of_getElem? hx) (hi i x hx).2⟩⟩

theorem SlR.kc (s : SlR ok w R h v xs) (k : KeptC h h' L) (hL : ∀ b ∈ L, ¬ ok b) (hR : ∀ cs, ∀ x ∈ xs, R h cs x → R h' cs x) : SlR ok w R h' v xs :=
  s.imp (fun _ _ q => q) hR fun b cs hk hb => (k.2 b (cel_lt hb) (fun q => hL b q hk)).trans hb

theorem SlR.row (s : SlR ok w R h v xs) (hne : 0 < xs.length) : ∃ b o c cs, v = .slice (some ⟨b, o, none⟩) xs.length c ∧ xs.length ≤ c ∧ ok b ∧ cel h b = some cs ∧ ∀ (i : Nat) (x : α), xs[i]? = some x → o + i * w + w ≤ cs.length ∧ R h ((cs.drop (o + i * w)).take w) x := by
  rcases s with ⟨_, rfl⟩ | s
  · simp at hne
  · exact s

/-- What an element reads as, where it is read. -/
theorem SlR.at' (s : SlR ok w R h v xs) {i : Nat} {x : α} (hx : xs[i]? = some x) : ∃ b o c cs es lv an, v = .slice (some ⟨b, o, none⟩) xs.length c ∧ ok b ∧ hget h b = some (.cells cs es lv an) ∧ o + i * w + w ≤ cs.length ∧ R h ((cs.drop (o + i * w)).take w) x := by
  have hi := (List.getElem?_eq_some_iff.1 hx).1
  obtain ⟨b, o, c, cs, e, _, hk, hb, hr⟩ := s.row (by omega)
  obtain ⟨es, lv, an, hg⟩ := cel_inv hb
  exact ⟨b, o, c, cs, es, lv, an, e, hk, hg, (hr i x hx).1, (hr i x hx).2⟩

theorem rowKept (h : H) (cs : List Value) (es : Nat) (an : List Nat) : Kept h (newRow h cs es an) [] := ⟨by simp, fun c hc _ => by simp [hc]⟩

/-- A list that is being built: nil, or a row of its own, full to its end. -/
def Bld (ok : Nat → Prop) (w : Nat) (R : H → List Value → α → Prop) (h : H) (v : Value) (xs : List α) : Prop :=
  (v = .slice none 0 0 ∧ xs = []) ∨
  ∃ b cs an, v = .slice (some ⟨b, 0, none⟩) xs.length xs.length ∧ ok b ∧ hget h b = some (.cells cs w true an) ∧ cs.length = xs.length * w ∧ ∀ (i : Nat) (x : α), xs[i]? = some x → R h ((cs.drop (i * w)).take w) x

theorem Bld.sl (s : Bld ok w R h v xs) : SlR ok w R h v xs := by
  rcases s with ⟨e, e'⟩ | ⟨b, cs, an, e, hk, hb, hl, hi⟩
  · exact .inl ⟨.inl e, e'⟩
  · refine .inr ⟨b, 0, xs.length, cs, e, Nat.le_refl _, hk, cel_of hb, fun i x hx => ⟨?_, ?_⟩⟩
    · have hi' := (List.getElem?_eq_some_iff.1 hx).1
      have : (i + 1) * w ≤ xs.length * w := Nat.mul_le_mul_right _ hi'
      rw [Nat.add_mul] at this
      omega
    · rw [Nat.zero_add]; exact hi i x hx

theorem Bld.nil (ok : Nat → Prop) (w : Nat) (R : H → List Value → α → Prop) (h : H) : Bld ok w R h (.slice none 0 0) [] := .inl ⟨rfl, rfl⟩

theorem Bld.ne (s : Bld ok w R h v xs) {b : Nat} (hb : ¬ ok b) : ∀ o n c, v ≠ .slice (some ⟨b, o, none⟩) n c := by
  rintro o n c e
  rcases s with ⟨rfl, _⟩ | ⟨b', cs, an, e', hk, _⟩
  · cases e
  · rw [e'] at e
    injection e with e1
    injection e1 with e1
    injection e1 with e1
    exact hb (e1 ▸ hk)

theorem Bld.kept (s : Bld ok w R h v xs) (k : Kept h h' L) (hL : ∀ b ∈ L, ¬ ok b) (hR : ∀ cs, ∀ x ∈ xs, R h cs x → R h' cs x) : Bld ok w R h' v xs := by
  rcases s with s | ⟨b, cs, an, e, hk, hb, hl, hi⟩
  · exact .inl s
  · exact .inr ⟨b, cs, an, e, hk, (k.get (lt_of_get hb) (fun q => hL b q hk)).trans hb, hl, fun i x hx => hR _ _ (List.mem_of_getElem? hx) (hi i x hx)⟩

theorem Bld.frame (s : Bld ok w R h v xs) (k : Kept h h' []) (hR : ∀ cs x, R h cs x → R h' cs x) : Bld ok w R h' v xs :=
  s.kept k (by simp) fun cs x _ q => hR cs x q

theorem drop_take_append (cs new : List Value) (n w i : Nat) (hl : cs.length = n * w) (hi : i < n) : ((cs ++ new).drop (i * w)).take w = (cs.drop (i * w)).take w := by
  have h1 : (i + 1) * w ≤ n * w := Nat.mul_le_mul_right _ hi
  rw [Nat.add_mul] at h1
  rw [List.drop_append, List.take_append]
  have h2 : (List.drop (i * w) cs).length = n * w - i * w := by rw [List.length_drop, hl]
  have h3 : w - (List.drop (i * w) cs).length = 0 := by omega
  rw [h3, List.take_zero, List.append_nil]

theorem take_at_end (cs new : List Value) (n w : Nat) (hl : cs.length = n * w) (hn : new.length = w) : ((cs ++ new).drop (n * w)).take w = new := by
  rw [← hl, List.drop_left]
  exact List.take_of_length_le (by omega)

theorem take_in_end (cs new : List Value) (n w j : Nat) (hl : cs.length = n * w) : ((cs ++ new).drop ((n + j) * w)).take w = (new.drop (j * w)).take w := by
  rw [Nat.add_mul, ← hl, ← List.drop_drop, List.drop_left]

/-- Elements put behind. -/
theorem Bld.appN {bytes : Nat} (s : Bld ok w R h v xs) {new : List Value} {ys : List α} (hn : new.length = ys.length * w) (hb : (xs.length + ys.length) * bytes ≤ 2 ^ 47)
    (hok : ok h.size) (hR : ∀ h', KeptC h h' [] → ∀ cs, ∀ y ∈ xs, R h cs y → R h' cs y) (hx : ∀ h', KeptC h h' [] → ∀ (i : Nat) (y : α), ys[i]? = some y → R h' ((new.drop (i * w)).take w) y) :
    Ans (appendTo h w bytes v ys.length new) fun v' h' => Bld ok w R h' v' (xs ++ ys) ∧ KeptC h h' [] ∧ h'.size ≤ h.size + 1 ∧ (∀ b, b < h.size → (∀ o n c, v ≠ .slice (some ⟨b, o, none⟩) n c) → hget h' b = hget h b) ∧ (v' = v ∨ ∃ n c, v' = .slice (some ⟨h.size, 0, none⟩) n c) := by
  by_cases hz : ys.length = 0
  · have hys : ys = [] := List.length_eq_zero_iff.1 hz
    subst hys
    have e : appendTo h w bytes v 0 new = some (v, h) := by
      rcases s with ⟨rfl, rfl⟩ | ⟨b, cs, an, rfl, _⟩ <;> simp [appendTo]
    exact ⟨v, h, e, by simpa using s, KeptC.refl _ _, by omega, fun _ _ _ => rfl, .inl rfl⟩
  rcases s with ⟨rfl, rfl⟩ | ⟨b, cs, an, rfl, hk, hg, hl, hi⟩
  · have kc : KeptC h (newRow h new w []) [] := ⟨by simp, fun c hc _ => cel_congr (by simp [hc])⟩
    have hb' : ys.length * bytes ≤ 140737488355328 := by simpa using hb
    have hz' : ¬ ys = [] := fun e => hz (by rw [e]; rfl)
    refine ⟨.slice (some ⟨h.size, 0, none⟩) ys.length ys.length, newRow h new w [], ?_, ?_, kc, by simp, fun c hc _ => by simp [hc], .inr ⟨_, _, rfl⟩⟩
    · simp [appendTo, hb', hz']
    · exact .inr ⟨h.size, new, [], rfl, hok, by simp, by simpa using hn, fun i y hy => hx _ kc i y (by simpa using hy)⟩
  · have hbs := lt_of_get hg
    have kc : KeptC h (newRow (h.setIfInBounds b (.cells cs w false an)) (cs ++ new) w (b :: an)) [] := by
      refine ⟨by simp, fun c hc _ => ?_⟩
      by_cases e : b = c
      · subst e
        rw [cel_of hg]
        exact cel_of (es := w) (lv := false) (an := an) (by simp [hbs])
      · exact cel_congr (by simp [hc, e])
    have e2 : cs.take (xs.length * w) = cs := List.take_of_length_le (by omega)
    refine ⟨.slice (some ⟨h.size, 0, none⟩) (xs.length + ys.length) (xs.length + ys.length), newRow (h.setIfInBounds b (.cells cs w false an)) (cs ++ new) w (b :: an), ?_, ?_, kc, by simp, ?_, .inr ⟨_, _, rfl⟩⟩
    · have hb' : (xs.length + ys.length) * bytes ≤ 140737488355328 := by simpa using hb
      have hz' : ¬ ys = [] := fun e => hz (by rw [e]; rfl)
      have hnl : ¬ xs.length + ys.length ≤ xs.length := by omega
      simp [appendTo, hb', hg, hl, e2, hnl, hz']
    · refine .inr ⟨h.size, cs ++ new, b :: an, by simp, hok, by simp, by simp [hl, hn, Nat.add_mul], ?_⟩
      intro i y hy
      by_cases hi' : i < xs.length
      · rw [List.getElem?_append_left hi'] at hy
        rw [drop_take_append cs new xs.length w i hl hi']
        exact hR _ kc _ _ (List.mem_of_getElem? hy) (hi i y hy)
      · rw [List.getElem?_append_right (by omega)] at hy
        have := take_in_end cs new xs.length w (i - xs.length) hl
        rw [show xs.length + (i - xs.length) = i by omega] at this
        rw [this]
        exact hx _ kc _ _ hy
    · intro c hc hn'
      have : ¬ b = c := fun e => hn' 0 _ _ (by rw [e])
      simp [hc, this]

/-- One element put behind. -/
theorem Bld.app {bytes : Nat} (s : Bld ok w R h v xs) {new : List Value} {x : α} (hn : new.length = w) (hb : (xs.length + 1) * bytes ≤ 2 ^ 47)
    (hok : ok h.size) (hR : ∀ h', KeptC h h' [] → ∀ cs, ∀ y ∈ xs, R h cs y → R h' cs y) (hx : ∀ h', KeptC h h' [] → R h' new x) :
    Ans (appendTo h w bytes v 1 new) fun v' h' => Bld ok w R h' v' (xs ++ [x]) ∧ KeptC h h' [] ∧ h'.size ≤ h.size + 1 ∧ (∀ b, b < h.size → (∀ o n c, v ≠ .slice (some ⟨b, o, none⟩) n c) → hget h' b = hget h b) ∧ (v' = v ∨ ∃ n c, v' = .slice (some ⟨h.size, 0, none⟩) n c) := by
  refine s.appN (ys := [x]) (by simpa using hn) hb hok hR fun h' k i y hy => ?_
  cases i with
  | succ i => simp at hy
  | zero =>
    simp at hy
    subst hy
    rw [Nat.zero_mul, List.drop_zero, List.take_of_length_le (by omega)]
    exact hx h' k

/-- A slice of what nobody changes, handed in. -/
theorem SlR.src (s : SlR ok w R h v xs) (hw : 0 < w) (hcs : ∀ cs, ∀ x ∈ xs, R h cs x → cs.length = w) : ∃ new, srcOf h w v = some (xs.length, new) ∧ new.length = xs.length * w ∧ ∀ (i : Nat) (x : α), xs[i]? = some x → R h ((new.drop (i * w)).take w) x := by
  rcases s with ⟨rfl | rfl, rfl⟩ | ⟨b, o, c, cs, rfl, hc, hk, hb, hi⟩
  · exact ⟨[], by simp [srcOf], by simp, by simp⟩
  · exact ⟨[], by simp [srcOf], by simp, by simp⟩
  · obtain ⟨es', lv, an, hg⟩ := cel_inv hb
    by_cases hz : xs.length = 0
    · have hx : xs = [] := List.length_eq_zero_iff.1 hz
      subst hx
      exact ⟨[], by simp [srcOf], by simp, by simp⟩
    · have hlast := hi (xs.length - 1) xs[xs.length - 1] (List.getElem?_eq_getElem (by omega))
      have hle : o + xs.length * w ≤ cs.length := by
        have h1 := hlast.1
        have : (xs.length - 1) * w + w = xs.length * w := by
          rw [← Nat.succ_mul]; congr 1; omega
        omega
      refine ⟨(cs.drop o).take (xs.length * w), ?_, ?_, ?_⟩
      · simp [srcOf, hz, rd, hg, hle]
      · rw [List.length_take, List.length_drop]; omega
      · intro i x hx
        have hi' := (List.getElem?_eq_some_iff.1 hx).1
        have h1 : (i + 1) * w ≤ xs.length * w := Nat.mul_le_mul_right _ hi'
        rw [Nat.add_mul] at h1
        have := (hi i x hx).2
        rw [List.drop_take, List.take_take, List.drop_drop, Nat.min_eq_left (by omega)]
        exact this

end

end Go.Ev

/- Changes, parts, items: as data, and as memory holds them. -/
set_option linter.unusedSimpArgs false
set_option linter.unusedVariables false
namespace Go.Proofs.Ytkkagpchcefidaa
open Go.Ev

structure Chg where
  kind : Int
  place : ByteArray
  data : ByteArray
  ver : Int
structure Tgd where
  chg : Chg
  tags : List Int
structure Seen where
  place : ByteArray
  data : ByteArray
  ver : Int
structure Prt where
  id : Int
  stamp : Int
  place : ByteArray
  kind : Int
  nodes : List Seen
structure Itm where
  stamp : Int
  after : Int
  marker : Bool
  chgs : List Tgd
  prts : List Prt

def Chg.cells (c : Chg) : List Value := [.int .i64 c.kind, .string c.place, .string c.data, .int .i64 c.ver]
def Seen.cells (s : Seen) : List Value := [.string s.place, .string s.data, .int .i64 s.ver]

def IntC (h : H) (cs : List Value) (n : Int) : Prop := cs = [.int .i64 n]
def SeenC (h : H) (cs : List Value) (s : Seen) : Prop := cs = s.cells
def TgdC (ok : Nat → Prop) (h : H) (cs : List Value) (t : Tgd) : Prop := ∃ v, cs = [.int .i64 t.chg.kind, .string t.chg.place, .string t.chg.data, .int .i64 t.chg.ver, v] ∧ SlR ok 1 IntC h v t.tags
def PrtC (ok : Nat → Prop) (h : H) (cs : List Value) (p : Prt) : Prop := ∃ v, cs = [.int .i64 p.id, .int .i64 p.stamp, .string p.place, .int .i64 p.kind, v] ∧ SlR ok 3 SeenC h v p.nodes
def ItmC (ok : Nat → Prop) (h : H) (cs : List Value) (x : Itm) : Prop := ∃ v w, cs = [.int .i64 x.stamp, .int .i64 x.after, .bool x.marker, v, w] ∧ SlR ok 5 (TgdC ok) h v x.chgs ∧ SlR ok 5 (PrtC ok) h w x.prts

section
variable {ok ok' : Nat → Prop} {h h' : H} {cs : List Value} {L : List Nat}

theorem IntC.kc {n : Int} (s : IntC h cs n) : IntC h' cs n := s
theorem SeenC.kc {n : Seen} (s : SeenC h cs n) : SeenC h' cs n := s

theorem SlInt.imp {v : Value} {xs : List Int} (s : SlR ok 1 IntC h v xs) (h1 : ∀ b, b < h.size → ok b → ok' b) (h3 : ∀ b cs, ok b → cel h b = some cs → cel h' b = some cs) : SlR ok' 1 IntC h' v xs :=
  s.imp h1 (fun _ _ _ q => q) h3
theorem SlSeen.imp {v : Value} {xs : List Seen} (s : SlR ok 3 SeenC h v xs) (h1 : ∀ b, b < h.size → ok b → ok' b) (h3 : ∀ b cs, ok b → cel h b = some cs → cel h' b = some cs) : SlR ok' 3 SeenC h' v xs :=
  s.imp h1 (fun _ _ _ q => q) h3
theorem TgdC.imp {t : Tgd} (s : TgdC ok h cs t) (h1 : ∀ b, b < h.size → ok b → ok' b) (h3 : ∀ b cs, ok b → cel h b = some cs → cel h' b = some cs) : TgdC ok' h' cs t := by
  obtain ⟨v, e, s⟩ := s
  exact ⟨v, e, SlInt.imp s h1 h3⟩
theorem PrtC.imp {t : Prt} (s : PrtC ok h cs t) (h1 : ∀ b, b < h.size → ok b → ok' b) (h3 : ∀ b cs, ok b → cel h b = some cs → cel h' b = some cs) : PrtC ok' h' cs t := by
  obtain ⟨v, e, s⟩ := s
  exact ⟨v, e, SlSeen.imp s h1 h3⟩
theorem SlTgd.imp {v : Value} {xs : List Tgd} (s : SlR ok 5 (TgdC ok) h v xs) (h1 : ∀ b, b < h.size → ok b → ok' b) (h3 : ∀ b cs, ok b → cel h b = some cs → cel h' b = some cs) : SlR ok' 5 (TgdC ok') h' v xs :=
  SlR.imp s h1 (fun _ _ _ q => TgdC.imp q h1 h3) h3
theorem SlPrt.imp {v : Value} {xs : List Prt} (s : SlR ok 5 (PrtC ok) h v xs) (h1 : ∀ b, b < h.size → ok b → ok' b) (h3 : ∀ b cs, ok b → cel h b = some cs → cel h' b = some cs) : SlR ok' 5 (PrtC ok') h' v xs :=
  SlR.imp s h1 (fun _ _ _ q => PrtC.imp q h1 h3) h3
theorem ItmC.imp {x : Itm} (s : ItmC ok h cs x) (h1 : ∀ b, b < h.size → ok b → ok' b) (h3 : ∀ b cs, ok b → cel h b = some cs → cel h' b = some cs) : ItmC ok' h' cs x := by
  obtain ⟨v, w, e, s1, s2⟩ := s
  exact ⟨v, w, e, SlTgd.imp s1 h1 h3, SlPrt.imp s2 h1 h3⟩
theorem SlItm.imp {v : Value} {xs : List Itm} (s : SlR ok 5 (ItmC ok) h v xs) (h1 : ∀ b, b < h.size → ok b → ok' b) (h3 : ∀ b cs, ok b → cel h b = some cs → cel h' b = some cs) : SlR ok' 5 (ItmC ok') h' v xs :=
  SlR.imp s h1 (fun _ _ _ q => ItmC.imp q h1 h3) h3

theorem keep_of (k : KeptC h h' L) (hL : ∀ b ∈ L, ¬ ok b) : ∀ b cs, ok b → cel h b = some cs → cel h' b = some cs :=
  fun b cs hk hb => (k.2 b (cel_lt hb) (fun q => hL b q hk)).trans hb
end

end Go.Proofs.Ytkkagpchcefidaa

/- Clone, copiedChanges, copiedParts: copies in new memory. -/
set_option linter.unusedSimpArgs false
set_option linter.unusedVariables false
namespace Go.Proofs.Ytkkagpchcefidaa
open Go.Ev

/-- Built in memory that is newer than N. -/
abbrev since (N : Nat) : Nat → Prop := fun b => N ≤ b

def CloneP {α : Type} (w : Nat) (R : H → List Value → α → Prop) (h : H) (xs : List α) (v : Value) (h' : H) : Prop := Bld (since h.size) w R h' v xs ∧ Kept h h' []

theorem clone_core {α : Type} {w bytes : Nat} {R : H → List Value → α → Prop} {ok : Nat → Prop} {h : H} {v : Value} {xs : List α} (hw : 0 < w) (s : SlR ok w R h v xs)
    (hb : xs.length * bytes ≤ 2 ^ 47) (hcs : ∀ h cs x, R h cs x → cs.length = w ∧ cs.all oneCell = true) (hR : ∀ h h' cs x, KeptC h h' [] → R h cs x → R h' cs x) :
    ∃ new, srcOf (Ev.newRow h [] w []) w v = some (xs.length, new) ∧ new.all oneCell = true ∧ Ans (appendTo (Ev.newRow h [] w []) w bytes (.slice (some ⟨h.size, 0, none⟩) 0 0) xs.length new) (CloneP w R h xs) := by
  have k1 : Kept h (Ev.newRow h [] w []) [] := ⟨by simp, fun c hc _ => by simp [hc]⟩
  have s1 : SlR ok w R (Ev.newRow h [] w []) v xs := s.kc k1.c (by simp) fun cs x _ q => hR _ _ cs x k1.c q
  obtain ⟨new, e1, e2, e3⟩ := s1.src hw (fun cs x _ q => (hcs _ cs x q).1)
  refine ⟨new, e1, ?_, ?_⟩
  · rw [List.all_eq_true]
    intro c hc
    obtain ⟨j, hj, rfl⟩ := List.getElem_of_mem hc
    have hi : j / w < xs.length := by
      rw [e2] at hj
      exact Nat.div_lt_of_lt_mul (by rw [Nat.mul_comm]; exact hj)
    have hr := e3 (j / w) _ (List.getElem?_eq_getElem hi)
    have := List.all_eq_true.1 (hcs _ _ _ hr).2
    refine this _ ?_
    have hm : j % w < w := Nat.mod_lt _ hw
    have hjd : j / w * w + j % w = j := by rw [Nat.mul_comm]; exact Nat.div_add_mod j w
    rw [List.mem_iff_getElem?]
    refine ⟨j % w, ?_⟩
    rw [List.getElem?_take, if_pos hm, List.getElem?_drop, hjd]
    exact List.getElem?_eq_getElem hj
  · have b0 : Bld (since h.size) w R (Ev.newRow h [] w []) (.slice (some ⟨h.size, 0, none⟩) 0 0) ([] : List α) :=
      .inr ⟨h.size, [], [], rfl, Nat.le_refl _, by simp, by simp, by simp⟩
    refine (b0.appN (ys := xs) (bytes := bytes) e2 (by simpa using hb) (by simp [since]) (by simp) (fun h' k i y hy => hR _ _ _ _ k (e3 i y hy))).mono ?_
    rintro v' h' ⟨q1, q2, q3, q4, q5⟩
    refine ⟨by simpa using q1, ?_⟩
    refine ⟨by have := q2.1; simp at this; omega, fun c hc _ => ?_⟩
    rw [q4 c (by simp; omega) (fun o n c' e => by injection e with e; injection e with e; injection e with e; omega)]
    simp [hc]

theorem int_cells (h : H) (cs : List Value) (x : Int) (r : IntC h cs x) : cs.length = 1 ∧ cs.all oneCell = true := by
  have e : cs = [.int .i64 x] := r
  subst e; exact ⟨rfl, rfl⟩
theorem seen_cells (h : H) (cs : List Value) (x : Seen) (r : SeenC h cs x) : cs.length = 3 ∧ cs.all oneCell = true := by
  have e : cs = x.cells := r
  subst e; exact ⟨rfl, rfl⟩

theorem isnil_some {ok : Nat → Prop} {α : Type} {w : Nat} {R : H → List Value → α → Prop} {h : H} {v : Value} {xs : List α} (s : SlR ok w R h v xs) : (v = .slice none 0 0 ∧ xs = []) ∨ ∃ a n c, v = .slice (some a) n c := by
  rcases s with ⟨rfl | rfl, rfl⟩ | ⟨b, o, c, cs, rfl, _⟩
  · exact .inl ⟨rfl, rfl⟩
  · exact .inr ⟨_, _, _, rfl⟩
  · exact .inr ⟨_, _, _, rfl⟩

theorem cloneI_spec {F : Nat} (hF : 1 ≤ F) {ok : Nat → Prop} {h : H} {v : Value} {xs : List Int} (s : SlR ok 1 IntC h v xs) (hb : xs.length ≤ 17592186044416) : Ans (cf F 61 [v] h) (CloneP 1 IntC h xs) := by
  obtain ⟨F, rfl⟩ : ∃ G, F = G + 1 := ⟨F - 1, by omega⟩
  rw [cf_step (a := a61) rfl rfl (by simp [a61])]
  obtain ⟨new, e1, e2, e3⟩ := clone_core (bytes := 8) (by omega) s (by omega) int_cells (fun _ _ _ _ _ q => q)
  rcases isnil_some s with ⟨rfl, rfl⟩ | ⟨a, n, c, rfl⟩
  · simp (disch := first | omega | (simp only [newRow_size, Array.size_setIfInBounds, Array.size_push]; done) | (simp only [newRow_size, Array.size_setIfInBounds, Array.size_push]; omega)) [a61, r61_0, r61_1, r61_2, eqT, eqF, neT, neF, ltT, ltF, leT, leF, nltT, nltF, nleT, nleF, nneT, nneF, flipX, List.getElem?_cons_zero, List.getElem?_cons_succ]
    exact Ans.of ⟨Bld.nil _ _ _ _, Kept.refl _ _⟩
  · simp (disch := first | omega | (simp only [newRow_size, Array.size_setIfInBounds, Array.size_push]; done) | (simp only [newRow_size, Array.size_setIfInBounds, Array.size_push]; omega)) [a61, r61_0, r61_1, r61_3, eqT, eqF, neT, neF, ltT, ltF, leT, leF, nltT, nltF, nleT, nleF, nneT, nneF, flipX, List.getElem?_cons_zero, List.getElem?_cons_succ, e1, e2]
    refine Ans.next e3 ?_
    intro v' h' q
    simp (disch := first | omega | (simp only [newRow_size, Array.size_setIfInBounds, Array.size_push]; done) | (simp only [newRow_size, Array.size_setIfInBounds, Array.size_push]; omega)) []
    exact Ans.of q

theorem cloneS_spec {F : Nat} (hF : 1 ≤ F) {ok : Nat → Prop} {h : H} {v : Value} {xs : List Seen} (s : SlR ok 3 SeenC h v xs) (hb : xs.length ≤ 3518437208883) : Ans (cf F 62 [v] h) (CloneP 3 SeenC h xs) := by
  obtain ⟨F, rfl⟩ : ∃ G, F = G + 1 := ⟨F - 1, by omega⟩
  rw [cf_step (a := a62) rfl rfl (by simp [a62])]
  obtain ⟨new, e1, e2, e3⟩ := clone_core (bytes := 40) (by omega) s (by omega) seen_cells (fun _ _ _ _ _ q => q)
  rcases isnil_some s with ⟨rfl, rfl⟩ | ⟨a, n, c, rfl⟩
  · simp (disch := first | omega | (simp only [newRow_size, Array.size_setIfInBounds, Array.size_push]; done) | (simp only [newRow_size, Array.size_setIfInBounds, Array.size_push]; omega)) [a62, r62_0, r62_1, r62_2, eqT, eqF, neT, neF, ltT, ltF, leT, leF, nltT, nltF, nleT, nleF, nneT, nneF, flipX, List.getElem?_cons_zero, List.getElem?_cons_succ]
    exact Ans.of ⟨Bld.nil _ _ _ _, Kept.refl _ _⟩
  · simp (disch := first | omega | (simp only [newRow_size, Array.size_setIfInBounds, Array.size_push]; done) | (simp only [newRow_size, Array.size_setIfInBounds, Array.size_push]; omega)) [a62, r62_0, r62_1, r62_3, eqT, eqF, neT, neF, ltT, ltF, leT, leF, nltT, nltF, nleT, nleF, nneT, nneF, flipX, List.getElem?_cons_zero, List.getElem?_cons_succ, e1, e2]
    refine Ans.next e3 ?_
    intro v' h' q
    simp (disch := first | omega | (simp only [newRow_size, Array.size_setIfInBounds, Array.size_push]; done) | (simp only [newRow_size, Array.size_setIfInBounds, Array.size_push]; omega)) []
    exact Ans.of q

end Go.Proofs.Ytkkagpchcefidaa

/- copiedChanges, copiedParts; the document's copies. -/
set_option linter.unusedSimpArgs false
set_option linter.unusedVariables false
namespace Go.Proofs.Ytkkagpchcefidaa
open Go.Ev

theorem take_snoc {α : Type} {xs : List α} {i : Nat} {x : α} (hx : xs[i]? = some x) : xs.take (i + 1) = xs.take i ++ [x] := by
  rw [List.take_add_one, hx]; rfl

theorem since_lt {N : Nat} {h : H} (hN : N ≤ h.size) : since N h.size := hN

/-- A list of tagged changes of which each list of tags is short. -/
def ShortT (xs : List Tgd) : Prop := xs.length ≤ 1954687338268 ∧ ∀ t ∈ xs, t.tags.length ≤ 17592186044416
def ShortP (xs : List Prt) : Prop := xs.length ≤ 2199023255552 ∧ ∀ t ∈ xs, t.nodes.length ≤ 3518437208883

def CopyT (h : H) (xs : List Tgd) (v : Value) (h' : H) : Prop := Bld (since h.size) 5 (TgdC (since h.size)) h' v xs ∧ Kept h h' []
def CopyP (h : H) (xs : List Prt) (v : Value) (h' : H) : Prop := Bld (since h.size) 5 (PrtC (since h.size)) h' v xs ∧ Kept h h' []

theorem copiedChanges_spec {F : Nat} (hF : 17592186044420 ≤ F) {ok : Nat → Prop} {h : H} {v : Value} {xs : List Tgd} (s : SlR ok 5 (TgdC ok) h v xs) (hs : ShortT xs) : Ans (cf F 44 [v] h) (CopyT h xs) := by
  obtain ⟨F, rfl⟩ : ∃ G, F = G + 1 := ⟨F - 1, by omega⟩
  obtain ⟨hs1, hs2⟩ := hs
  rw [cf_step (a := a44) rfl rfl (by simp [a44])]
  have hl := s.len
  simp (disch := first | omega | (simp only [newRow_size, Array.size_setIfInBounds, Array.size_push]; done) | (simp only [newRow_size, Array.size_setIfInBounds, Array.size_push]; omega)) [a44, r44_0, r44_1, r44_2, hl, eqT, eqF, neT, neF, ltT, ltF, leT, leF, nltT, nltF, nleT, nleF, nneT, nneF, flipX, List.getElem?_cons_zero, List.getElem?_cons_succ]
  refine loop_rule (fun m e g => ∃ (i : Nat) (u : Value), m = xs.length - i ∧ i ≤ xs.length ∧ e = [(3, u), (6, v), (7, .int .i64 xs.length), (8, .int .i64 i)] ∧ Kept h g [] ∧ Bld (since h.size) 5 (TgdC (since h.size)) g u (xs.take i)) ?_ _ xs.length _ _ (by omega) ⟨0, _, by omega, by omega, rfl, Kept.refl _ _, Bld.nil _ _ _ _⟩
  rintro m e g again ⟨i, u, rfl, hi, rfl, kg, bu⟩ ih
  by_cases hlt : i < xs.length
  · obtain ⟨x, hx⟩ : ∃ x, xs[i]? = some x := ⟨_, List.getElem?_eq_getElem hlt⟩
    have sg := SlTgd.imp s (ok' := ok) (fun _ _ q => q) (keep_of kg.c (by simp))
    obtain ⟨b, o, c, cs, es, lv, an, rfl, hk, hg, hle, vt, hat, st⟩ := sg.at' hx
    have hgs := lt_of_get hg
    have hto := st.one
    simp only [oneCell] at hto
    have hw : IntKind.i64.wrap ((i : Int) + 1) = ((i + 1 : Nat) : Int) := by rw [IntKind.wrap_i64]; omega
    simp (disch := first | omega | (simp only [newRow_size, Array.size_setIfInBounds, Array.size_push]; done) | (simp only [newRow_size, Array.size_setIfInBounds, Array.size_push]; omega)) [l44_8, r44_3, r44_4, hg, hat, hto, eqT, eqF, neT, neF, ltT, ltF, leT, leF, nltT, nltF, nleT, nleF, nneT, nneF, flipX, List.getElem?_cons_zero, List.getElem?_cons_succ, r44_5]
    have yg := kg.1
    refine Ans.next (cloneI_spec (F := F) (by omega) (SlInt.imp st (ok' := ok) (fun _ _ q => q) (keep_of (rowKept _ _ _ _).c (by simp))) (hs2 x (List.mem_of_getElem? hx))) ?_
    rintro v2 h2 ⟨bt, k2⟩
    have y2 := k2.1
    have g2 := fun c => k2.get (b := c)
    simp only [List.not_mem_nil, not_false_eq_true, forall_const, newRow_size] at g2 y2
    have hto2 := bt.sl.one
    have hvc2 := bt.sl.vc
    simp only [oneCell] at hto2
    simp only [vcells] at hvc2
    simp (disch := first | omega | (simp only [newRow_size, Array.size_setIfInBounds, Array.size_push]; done) | (simp only [newRow_size, Array.size_setIfInBounds, Array.size_push]; omega)) [g2, hto2, hvc2, eqT, eqF, neT, neF, ltT, ltF, leT, leF, nltT, nltF, nleT, nleF, nneT, nneF, flipX, List.getElem?_cons_zero, List.getElem?_cons_succ, r44_6, srcOf]
    have kE : Kept h (Ev.newRow (Array.setIfInBounds h2 g.size (.cells [.int .i64 x.chg.kind, .string x.chg.place, .string x.chg.data, .int .i64 x.chg.ver, v2] 0 true [])) [.int .i64 x.chg.kind, .string x.chg.place, .string x.chg.data, .int .i64 x.chg.ver, v2] 5 []) [] := ⟨(by first | omega | (simp only [newRow_size, Array.size_setIfInBounds, Array.size_push]; done) | (simp only [newRow_size, Array.size_setIfInBounds, Array.size_push]; omega)), fun c hc _ => by
      simp (disch := first | omega | (simp only [newRow_size, Array.size_setIfInBounds, Array.size_push]; done) | (simp only [newRow_size, Array.size_setIfInBounds, Array.size_push]; omega)) [g2]
      exact kg.get hc (by simp)⟩
    have bE : Bld (since h.size) 5 (TgdC (since h.size)) (Ev.newRow (Array.setIfInBounds h2 g.size (.cells [.int .i64 x.chg.kind, .string x.chg.place, .string x.chg.data, .int .i64 x.chg.ver, v2] 0 true [])) [.int .i64 x.chg.kind, .string x.chg.place, .string x.chg.data, .int .i64 x.chg.ver, v2] 5 []) u (xs.take i) := by
      refine bu.kept (L := []) ⟨(by first | omega | (simp only [newRow_size, Array.size_setIfInBounds, Array.size_push]; done) | (simp only [newRow_size, Array.size_setIfInBounds, Array.size_push]; omega)), fun c hc _ => by simp (disch := first | omega | (simp only [newRow_size, Array.size_setIfInBounds, Array.size_push]; done) | (simp only [newRow_size, Array.size_setIfInBounds, Array.size_push]; omega)) [g2]⟩ (by simp) (fun cs t _ q => TgdC.imp q (fun _ _ q => q) (keep_of (L := []) ⟨(by first | omega | (simp only [newRow_size, Array.size_setIfInBounds, Array.size_push]; done) | (simp only [newRow_size, Array.size_setIfInBounds, Array.size_push]; omega)), fun c hc _ => cel_congr (by simp (disch := first | omega | (simp only [newRow_size, Array.size_setIfInBounds, Array.size_push]; done) | (simp only [newRow_size, Array.size_setIfInBounds, Array.size_push]; omega)) [g2])⟩ (by simp)))
    have sE : SlR (since h.size) 1 IntC (Ev.newRow (Array.setIfInBounds h2 g.size (.cells [.int .i64 x.chg.kind, .string x.chg.place, .string x.chg.data, .int .i64 x.chg.ver, v2] 0 true [])) [.int .i64 x.chg.kind, .string x.chg.place, .string x.chg.data, .int .i64 x.chg.ver, v2] 5 []) v2 x.tags := by
      refine SlInt.imp bt.sl (fun b _ hb => ?_) (fun b cs hb hc => ?_)
      · have : g.size + 1 ≤ b := by simpa using hb
        show h.size ≤ b
        omega
      · have hb' : g.size + 1 ≤ b := by simpa using hb
        have := cel_lt hc
        rw [← hc]
        exact cel_congr (by simp (disch := first | omega | (simp only [newRow_size, Array.size_setIfInBounds, Array.size_push]; done) | (simp only [newRow_size, Array.size_setIfInBounds, Array.size_push]; omega)) [])
    refine Ans.next (bE.app (x := x) (bytes := 72) rfl ?_ ?_ ?_ ?_) ?_
    · rw [List.length_take]; omega
    · show h.size ≤ _; exact (by first | omega | (simp only [newRow_size, Array.size_setIfInBounds, Array.size_push]; done) | (simp only [newRow_size, Array.size_setIfInBounds, Array.size_push]; omega))
    · exact fun h' k cs y _ q => TgdC.imp q (fun _ _ q => q) (keep_of k (by simp))
    · exact fun h' k => ⟨v2, rfl, SlInt.imp sE (fun _ _ q => q) (keep_of k (by simp))⟩
    rintro u' h3 ⟨b3, k3, y3, g3, _⟩
    simp (disch := first | omega | (simp only [newRow_size, Array.size_setIfInBounds, Array.size_push]; done) | (simp only [newRow_size, Array.size_setIfInBounds, Array.size_push]; omega)) [r44_7, hw, eqT, eqF, neT, neF, ltT, ltF, leT, leF, nltT, nltF, nleT, nleF, nneT, nneF, flipX, List.getElem?_cons_zero, List.getElem?_cons_succ]
    refine ih (xs.length - (i + 1)) _ _ (by omega) ⟨i + 1, u', rfl, by omega, rfl, ?_, by rw [take_snoc hx]; exact b3⟩
    exact ⟨by have := kE.1; have := k3.1; omega, fun c hc _ => (g3 c (by have := kE.1; omega) (bE.ne (by simp; omega))).trans (kE.get hc (by simp))⟩
  · have hxi : i = xs.length := by omega
    subst hxi
    rw [List.take_length] at bu
    simp (disch := first | omega | (simp only [newRow_size, Array.size_setIfInBounds, Array.size_push]; done) | (simp only [newRow_size, Array.size_setIfInBounds, Array.size_push]; omega)) [l44_8, r44_3, r44_9, eqT, eqF, neT, neF, ltT, ltF, leT, leF, nltT, nltF, nleT, nleF, nneT, nneF, flipX, List.getElem?_cons_zero, List.getElem?_cons_succ]
    exact Ans.of ⟨bu, kg⟩

theorem copiedParts_spec {F : Nat} (hF : 17592186044420 ≤ F) {ok : Nat → Prop} {h : H} {v : Value} {xs : List Prt} (s : SlR ok 5 (PrtC ok) h v xs) (hs : ShortP xs) : Ans (cf F 45 [v] h) (CopyP h xs) := by
  obtain ⟨F, rfl⟩ : ∃ G, F = G + 1 := ⟨F - 1, by omega⟩
  obtain ⟨hs1, hs2⟩ := hs
  rw [cf_step (a := a45) rfl rfl (by simp [a45])]
  have hl := s.len
  simp (disch := first | omega | (simp only [newRow_size, Array.size_setIfInBounds, Array.size_push]; done) | (simp only [newRow_size, Array.size_setIfInBounds, Array.size_push]; omega)) [a45, r45_0, r45_1, r45_2, hl, eqT, eqF, neT, neF, ltT, ltF, leT, leF, nltT, nltF, nleT, nleF, nneT, nneF, flipX, List.getElem?_cons_zero, List.getElem?_cons_succ]
  refine loop_rule (fun m e g => ∃ (i : Nat) (u : Value), m = xs.length - i ∧ i ≤ xs.length ∧ e = [(3, u), (6, v), (7, .int .i64 xs.length), (8, .int .i64 i)] ∧ Kept h g [] ∧ Bld (since h.size) 5 (PrtC (since h.size)) g u (xs.take i)) ?_ _ xs.length _ _ (by omega) ⟨0, _, by omega, by omega, rfl, Kept.refl _ _, Bld.nil _ _ _ _⟩
  rintro m e g again ⟨i, u, rfl, hi, rfl, kg, bu⟩ ih
  by_cases hlt : i < xs.length
  · obtain ⟨x, hx⟩ : ∃ x, xs[i]? = some x := ⟨_, List.getElem?_eq_getElem hlt⟩
    have sg := SlPrt.imp s (ok' := ok) (fun _ _ q => q) (keep_of kg.c (by simp))
    obtain ⟨b, o, c, cs, es, lv, an, rfl, hk, hg, hle, vt, hat, st⟩ := sg.at' hx
    have hgs := lt_of_get hg
    have hto := st.one
    simp only [oneCell] at hto
    have hw : IntKind.i64.wrap ((i : Int) + 1) = ((i + 1 : Nat) : Int) := by rw [IntKind.wrap_i64]; omega
    simp (disch := first | omega | (simp only [newRow_size, Array.size_setIfInBounds, Array.size_push]; done) | (simp only [newRow_size, Array.size_setIfInBounds, Array.size_push]; omega)) [l45_8, r45_3, r45_4, hg, hat, hto, eqT, eqF, neT, neF, ltT, ltF, leT, leF, nltT, nltF, nleT, nleF, nneT, nneF, flipX, List.getElem?_cons_zero, List.getElem?_cons_succ, r45_5]
    have yg := kg.1
    refine Ans.next (cloneS_spec (F := F) (by omega) (SlSeen.imp st (ok' := ok) (fun _ _ q => q) (keep_of (rowKept _ _ _ _).c (by simp))) (hs2 x (List.mem_of_getElem? hx))) ?_
    rintro v2 h2 ⟨bt, k2⟩
    have y2 := k2.1
    have g2 := fun c => k2.get (b := c)
    simp only [List.not_mem_nil, not_false_eq_true, forall_const, newRow_size] at g2 y2
    have hto2 := bt.sl.one
    have hvc2 := bt.sl.vc
    simp only [oneCell] at hto2
    simp only [vcells] at hvc2
    simp (disch := first | omega | (simp only [newRow_size, Array.size_setIfInBounds, Array.size_push]; done) | (simp only [newRow_size, Array.size_setIfInBounds, Array.size_push]; omega)) [g2, hto2, hvc2, eqT, eqF, neT, neF, ltT, ltF, leT, leF, nltT, nltF, nleT, nleF, nneT, nneF, flipX, List.getElem?_cons_zero, List.getElem?_cons_succ, r45_6, srcOf]
    have kE : Kept h (Ev.newRow (Array.setIfInBounds h2 g.size (.cells [.int .i64 x.id, .int .i64 x.stamp, .string x.place, .int .i64 x.kind, v2] 0 true [])) [.int .i64 x.id, .int .i64 x.stamp, .string x.place, .int .i64 x.kind, v2] 5 []) [] := ⟨(by first | omega | (simp only [newRow_size, Array.size_setIfInBounds, Array.size_push]; done) | (simp only [newRow_size, Array.size_setIfInBounds, Array.size_push]; omega)), fun c hc _ => by
      simp (disch := first | omega | (simp only [newRow_size, Array.size_setIfInBounds, Array.size_push]; done) | (simp only [newRow_size, Array.size_setIfInBounds, Array.size_push]; omega)) [g2]
      exact kg.get hc (by simp)⟩
    have bE : Bld (since h.size) 5 (PrtC (since h.size)) (Ev.newRow (Array.setIfInBounds h2 g.size (.cells [.int .i64 x.id, .int .i64 x.stamp, .string x.place, .int .i64 x.kind, v2] 0 true [])) [.int .i64 x.id, .int .i64 x.stamp, .string x.place, .int .i64 x.kind, v2] 5 []) u (xs.take i) := by
      refine bu.kept (L := []) ⟨(by first | omega | (simp only [newRow_size, Array.size_setIfInBounds, Array.size_push]; done) | (simp only [newRow_size, Array.size_setIfInBounds, Array.size_push]; omega)), fun c hc _ => by simp (disch := first | omega | (simp only [newRow_size, Array.size_setIfInBounds, Array.size_push]; done) | (simp only [newRow_size, Array.size_setIfInBounds, Array.size_push]; omega)) [g2]⟩ (by simp) (fun cs t _ q => PrtC.imp q (fun _ _ q => q) (keep_of (L := []) ⟨(by first | omega | (simp only [newRow_size, Array.size_setIfInBounds, Array.size_push]; done) | (simp only [newRow_size, Array.size_setIfInBounds, Array.size_push]; omega)), fun c hc _ => cel_congr (by simp (disch := first | omega | (simp only [newRow_size, Array.size_setIfInBounds, Array.size_push]; done) | (simp only [newRow_size, Array.size_setIfInBounds, Array.size_push]; omega)) [g2])⟩ (by simp)))
    have sE : SlR (since h.size) 3 SeenC (Ev.newRow (Array.setIfInBounds h2 g.size (.cells [.int .i64 x.id, .int .i64 x.stamp, .string x.place, .int .i64 x.kind, v2] 0 true [])) [.int .i64 x.id, .int .i64 x.stamp, .string x.place, .int .i64 x.kind, v2] 5 []) v2 x.nodes := by
      refine SlSeen.imp bt.sl (fun b _ hb => ?_) (fun b cs hb hc => ?_)
      · have : g.size + 1 ≤ b := by simpa using hb
        show h.size ≤ b
        omega
      · have hb' : g.size + 1 ≤ b := by simpa using hb
        have := cel_lt hc
        rw [← hc]
        exact cel_congr (by simp (disch := first | omega | (simp only [newRow_size, Array.size_setIfInBounds, Array.size_push]; done) | (simp only [newRow_size, Array.size_setIfInBounds, Array.size_push]; omega)) [])
    refine Ans.next (bE.app (x := x) (bytes := 64) rfl ?_ ?_ ?_ ?_) ?_
    · rw [List.length_take]; omega
    · show h.size ≤ _; exact (by first | omega | (simp only [newRow_size, Array.size_setIfInBounds, Array.size_push]; done) | (simp only [newRow_size, Array.size_setIfInBounds, Array.size_push]; omega))
    · exact fun h' k cs y _ q => PrtC.imp q (fun _ _ q => q) (keep_of k (by simp))
    · exact fun h' k => ⟨v2, rfl, SlSeen.imp sE (fun _ _ q => q) (keep_of k (by simp))⟩
    rintro u' h3 ⟨b3, k3, y3, g3, _⟩
    simp (disch := first | omega | (simp only [newRow_size, Array.size_setIfInBounds, Array.size_push]; done) | (simp only [newRow_size, Array.size_setIfInBounds, Array.size_push]; omega)) [r45_7, hw, eqT, eqF, neT, neF, ltT, ltF, leT, leF, nltT, nltF, nleT, nleF, nneT, nneF, flipX, List.getElem?_cons_zero, List.getElem?_cons_succ]
    refine ih (xs.length - (i + 1)) _ _ (by omega) ⟨i + 1, u', rfl, by omega, rfl, ?_, by rw [take_snoc hx]; exact b3⟩
    exact ⟨by have := kE.1; have := k3.1; omega, fun c hc _ => (g3 c (by have := kE.1; omega) (bE.ne (by simp; omega))).trans (kE.get hc (by simp))⟩
  · have hxi : i = xs.length := by omega
    subst hxi
    rw [List.take_length] at bu
    simp (disch := first | omega | (simp only [newRow_size, Array.size_setIfInBounds, Array.size_push]; done) | (simp only [newRow_size, Array.size_setIfInBounds, Array.size_push]; omega)) [l45_8, r45_3, r45_9, eqT, eqF, neT, neF, ltT, ltF, leT, leF, nltT, nltF, nleT, nleF, nneT, nneF, flipX, List.getElem?_cons_zero, List.getElem?_cons_succ]
    exact Ans.of ⟨bu, kg⟩

end Go.Proofs.Ytkkagpchcefidaa

/- The document's copies: changes, parts. -/
set_option linter.unusedSimpArgs false
set_option linter.unusedVariables false
namespace Go.Proofs.Ytkkagpchcefidaa
open Go.Ev

theorem TgdC.frame {ok : Nat → Prop} {h h' : H} (k : KeptC h h' []) {cs : List Value} {x : Tgd} (q : TgdC ok h cs x) : TgdC ok h' cs x := TgdC.imp q (fun _ _ q => q) (keep_of k (by simp))
theorem PrtC.frame {ok : Nat → Prop} {h h' : H} (k : KeptC h h' []) {cs : List Value} {x : Prt} (q : PrtC ok h cs x) : PrtC ok h' cs x := PrtC.imp q (fun _ _ q => q) (keep_of k (by simp))
theorem ItmC.frame {ok : Nat → Prop} {h h' : H} (k : KeptC h h' []) {cs : List Value} {x : Itm} (q : ItmC ok h cs x) : ItmC ok h' cs x := ItmC.imp q (fun _ _ q => q) (keep_of k (by simp))
theorem SlTgd.frame {ok : Nat → Prop} {h h' : H} {v : Value} {xs : List Tgd} (s : SlR ok 5 (TgdC ok) h v xs) (k : KeptC h h' []) : SlR ok 5 (TgdC ok) h' v xs := SlTgd.imp s (fun _ _ q => q) (keep_of k (by simp))
theorem SlPrt.frame {ok : Nat → Prop} {h h' : H} {v : Value} {xs : List Prt} (s : SlR ok 5 (PrtC ok) h v xs) (k : KeptC h h' []) : SlR ok 5 (PrtC ok) h' v xs := SlPrt.imp s (fun _ _ q => q) (keep_of k (by simp))
theorem SlItm.frame {ok : Nat → Prop} {h h' : H} {v : Value} {xs : List Itm} (s : SlR ok 5 (ItmC ok) h v xs) (k : KeptC h h' []) : SlR ok 5 (ItmC ok) h' v xs := SlItm.imp s (fun _ _ q => q) (keep_of k (by simp))

theorem hd_at {ok : Nat → Prop} {h : H} {cs : List Value} {n : Nat} {t : Tgd} (q : TgdC ok h ((cs.drop n).take 5) t) (hle : n + 5 ≤ cs.length) : ∃ v, (cs.drop n).take 5 = [.int .i64 t.chg.kind, .string t.chg.place, .string t.chg.data, .int .i64 t.chg.ver, v] ∧ (cs.drop n).take 4 = [.int .i64 t.chg.kind, .string t.chg.place, .string t.chg.data, .int .i64 t.chg.ver] ∧ (cs.drop (n + 4)).take 1 = [v] ∧ SlR ok 1 IntC h v t.tags := by
  obtain ⟨v, e, s⟩ := q
  refine ⟨v, e, ?_, ?_, s⟩
  · have := congrArg (List.take 4) e
    rw [List.take_take] at this
    simpa using this
  · have := congrArg (List.drop 4) e
    rw [List.drop_take, List.drop_drop] at this
    simpa using this

set_option maxHeartbeats 1000000 in
theorem changes_spec {F : Nat} (hF : 17592186044420 ≤ F) {ok : Nat → Prop} {h : H} {v : Value} {xs : List Tgd} (s : SlR ok 5 (TgdC ok) h v xs) (hs : ShortT xs) : Ans (cf F 48 [v] h) (CopyT h xs) := by
  obtain ⟨F, rfl⟩ : ∃ G, F = G + 1 := ⟨F - 1, by omega⟩
  obtain ⟨hs1, hs2⟩ := hs
  rw [cf_step (a := a48) rfl rfl (by simp [a48])]
  have hl := s.len
  simp (disch := first | omega | (simp only [newRow_size, Array.size_setIfInBounds, Array.size_push]; done) | (simp only [newRow_size, Array.size_setIfInBounds, Array.size_push]; omega)) [a48, r48_0, r48_1, r48_2, hl, eqT, eqF, neT, neF, ltT, ltF, leT, leF, nltT, nltF, nleT, nleF, nneT, nneF, flipX, List.getElem?_cons_zero, List.getElem?_cons_succ]
  refine loop_rule (fun m e g => ∃ (i : Nat) (u : Value), m = xs.length - i ∧ i ≤ xs.length ∧ e = [(0, v), (3, u), (4, .int .i64 i)] ∧ Kept h g [] ∧ Bld (since h.size) 5 (TgdC (since h.size)) g u (xs.take i)) ?_ _ xs.length _ _ (by omega) ⟨0, _, by omega, by omega, rfl, Kept.refl _ _, Bld.nil _ _ _ _⟩
  rintro m e g again ⟨i, u, rfl, hi, rfl, kg, bu⟩ ih
  by_cases hlt : i < xs.length
  · obtain ⟨x, hx⟩ : ∃ x, xs[i]? = some x := ⟨_, List.getElem?_eq_getElem hlt⟩
    have hw : IntKind.i64.wrap ((i : Int) + 1) = ((i + 1 : Nat) : Int) := by rw [IntKind.wrap_i64]; omega
    have yg := kg.1
    simp (disch := first | omega | (simp only [newRow_size, Array.size_setIfInBounds, Array.size_push]; done) | (simp only [newRow_size, Array.size_setIfInBounds, Array.size_push]; omega)) [l48_12, r48_3, hl, eqT, eqF, neT, neF, ltT, ltF, leT, leF, nltT, nltF, nleT, nleF, nneT, nneF, flipX, List.getElem?_cons_zero, List.getElem?_cons_succ, r48_4, r48_5]
    have htl := hs2 x (List.mem_of_getElem? hx)
    refine loop_rule (fun m e g2 => ∃ (k : Nat) (t : Value), m = x.tags.length - k ∧ k ≤ x.tags.length ∧ e = [(0, v), (3, u), (4, .int .i64 i), (5, t), (6, .int .i64 k)] ∧ Kept g g2 [] ∧ Bld (since g.size) 1 IntC g2 t (x.tags.take k)) ?_ _ x.tags.length _ _ (by omega) ⟨0, _, by omega, by omega, rfl, Kept.refl _ _, Bld.nil _ _ _ _⟩
    rintro m e g2 again2 ⟨k, t, rfl, hk, rfl, k2, bt⟩ ih2
    have y2 := k2.1
    have s2 := s.imp (ok' := ok) (R' := TgdC ok) (fun _ _ q => q) (fun cs x _ q => TgdC.frame (kg.trans k2).c q) (keep_of (kg.trans k2).c (by simp))
    obtain ⟨b, o, c, cs, es, lv, an, rfl, hkb, hg, hle, hR⟩ := s2.at' hx
    obtain ⟨vt, hat5, hat4, hat1, st⟩ := hd_at hR hle
    have hgs := lt_of_get hg
    have hwk : IntKind.i64.wrap ((k : Int) + 1) = ((k + 1 : Nat) : Int) := by rw [IntKind.wrap_i64]; omega
    have htl' := st.len
    by_cases hkl : k < x.tags.length
    · obtain ⟨z, hz⟩ : ∃ z, x.tags[k]? = some z := ⟨_, List.getElem?_eq_getElem hkl⟩
      obtain ⟨b', o', c', cs', es', lv', an', rfl, hkb', hg', hle', hR'⟩ := st.at' hz
      have hR' : (cs'.drop (o' + k * 1)).take 1 = [.int .i64 z] := hR'
      rw [Nat.mul_one] at hR' hle'
      simp (disch := first | omega | (simp only [newRow_size, Array.size_setIfInBounds, Array.size_push]; done) | (simp only [newRow_size, Array.size_setIfInBounds, Array.size_push]; omega)) [l48_9, r48_6, hg, hat1, hg', hR', eqT, eqF, neT, neF, ltT, ltF, leT, leF, nltT, nltF, nleT, nleF, nneT, nneF, flipX, List.getElem?_cons_zero, List.getElem?_cons_succ, r48_7, srcOf]
      refine Ans.next (Bld.app (x := z) (bytes := 8) (ok := since g.size) (w := 1) (R := IntC) (xs := x.tags.take k) ?_ rfl ?_ ?_ ?_ ?_) ?_
      · exact bt.frame (rowKept _ _ _ _) (fun _ _ q => q)
      · rw [List.length_take]; omega
      · show g.size ≤ _; exact (by first | omega | (simp only [newRow_size, Array.size_setIfInBounds, Array.size_push]; done) | (simp only [newRow_size, Array.size_setIfInBounds, Array.size_push]; omega))
      · exact fun _ _ _ _ _ q => q
      · exact fun _ _ => rfl
      rintro t' g3 ⟨b3, k3, y3, g3', _⟩
      simp (disch := first | omega | (simp only [newRow_size, Array.size_setIfInBounds, Array.size_push]; done) | (simp only [newRow_size, Array.size_setIfInBounds, Array.size_push]; omega)) [r48_8, hwk, eqT, eqF, neT, neF, ltT, ltF, leT, leF, nltT, nltF, nleT, nleF, nneT, nneF, flipX, List.getElem?_cons_zero, List.getElem?_cons_succ]
      refine ih2 (x.tags.length - (k + 1)) _ _ (by omega) ⟨k + 1, t', rfl, by omega, rfl, ?_, by rw [take_snoc hz]; exact b3⟩
      have y3' := k3.1
      simp at y3'
      refine ⟨by omega, fun c hc _ => ?_⟩
      rw [g3' c (by simp; omega) (bt.ne (by simp; omega))]
      simp (disch := first | omega | (simp only [newRow_size, Array.size_setIfInBounds, Array.size_push]; done) | (simp only [newRow_size, Array.size_setIfInBounds, Array.size_push]; omega)) []
      exact k2.get hc (by simp)
    · have hkx : k = x.tags.length := by omega
      subst hkx
      rw [List.take_length] at bt
      have hvc := bt.sl.vc
      have hto := bt.sl.one
      simp only [vcells] at hvc
      simp only [oneCell] at hto
      simp (disch := first | omega | (simp only [newRow_size, Array.size_setIfInBounds, Array.size_push]; done) | (simp only [newRow_size, Array.size_setIfInBounds, Array.size_push]; omega)) [l48_9, r48_6, hg, hat1, htl', eqT, eqF, neT, neF, ltT, ltF, leT, leF, nltT, nltF, nleT, nleF, nneT, nneF, flipX, List.getElem?_cons_zero, List.getElem?_cons_succ, r48_10, hat4, hvc, srcOf, hto]
      refine Ans.next (Bld.app (x := x) (bytes := 72) (ok := since h.size) (w := 5) (R := TgdC (since h.size)) (xs := xs.take i) ?_ rfl ?_ ?_ ?_ ?_) ?_
      · exact Bld.frame (bu.frame k2 (fun _ _ q => TgdC.frame k2.c q)) (rowKept _ _ _ _) (fun _ _ q => TgdC.frame (rowKept _ _ _ _).c q)
      · rw [List.length_take]; omega
      · show h.size ≤ _; exact (by first | omega | (simp only [newRow_size, Array.size_setIfInBounds, Array.size_push]; done) | (simp only [newRow_size, Array.size_setIfInBounds, Array.size_push]; omega))
      · exact fun h' k cs y _ q => TgdC.frame k q
      · intro h' k
        refine ⟨t, rfl, ?_⟩
        refine SlInt.imp bt.sl (fun b _ hb => ?_) (fun b cs hb hc => ?_)
        · have : g.size ≤ b := hb
          show h.size ≤ b
          omega
        · exact ((rowKept _ _ _ _).c.trans k).2 b (cel_lt hc) (by simp) |>.trans hc
      rintro u' g3 ⟨b3, k3, y3, g3', _⟩
      simp (disch := first | omega | (simp only [newRow_size, Array.size_setIfInBounds, Array.size_push]; done) | (simp only [newRow_size, Array.size_setIfInBounds, Array.size_push]; omega)) [r48_11, hw, eqT, eqF, neT, neF, ltT, ltF, leT, leF, nltT, nltF, nleT, nleF, nneT, nneF, flipX, List.getElem?_cons_zero, List.getElem?_cons_succ]
      refine ih (xs.length - (i + 1)) _ _ (by omega) ⟨i + 1, u', rfl, by omega, rfl, ?_, by rw [take_snoc hx]; exact b3⟩
      have y3' := k3.1
      simp at y3'
      refine ⟨by omega, fun c hc _ => ?_⟩
      rw [g3' c (by simp; omega) (bu.ne (by simp; omega))]
      simp (disch := first | omega | (simp only [newRow_size, Array.size_setIfInBounds, Array.size_push]; done) | (simp only [newRow_size, Array.size_setIfInBounds, Array.size_push]; omega)) []
      exact (k2.get (by omega) (by simp)).trans (kg.get hc (by simp))
  · have hxi : i = xs.length := by omega
    subst hxi
    rw [List.take_length] at bu
    simp (disch := first | omega | (simp only [newRow_size, Array.size_setIfInBounds, Array.size_push]; done) | (simp only [newRow_size, Array.size_setIfInBounds, Array.size_push]; omega)) [l48_12, r48_3, hl, r48_13, eqT, eqF, neT, neF, ltT, ltF, leT, leF, nltT, nltF, nleT, nleF, nneT, nneF, flipX, List.getElem?_cons_zero, List.getElem?_cons_succ]
    exact Ans.of ⟨bu, kg⟩

set_option maxHeartbeats 1000000 in
theorem parts_spec {F : Nat} (hF : 17592186044420 ≤ F) {ok : Nat → Prop} {h : H} {v : Value} {xs : List Prt} (s : SlR ok 5 (PrtC ok) h v xs) (hs : ShortP xs) : Ans (cf F 49 [v] h) (CopyP h xs) := by
  obtain ⟨F, rfl⟩ : ∃ G, F = G + 1 := ⟨F - 1, by omega⟩
  obtain ⟨hs1, hs2⟩ := hs
  rw [cf_step (a := a49) rfl rfl (by simp [a49])]
  have hl := s.len
  simp (disch := first | omega | (simp only [newRow_size, Array.size_setIfInBounds, Array.size_push]; done) | (simp only [newRow_size, Array.size_setIfInBounds, Array.size_push]; omega)) [a49, r49_0, r49_1, r49_2, hl, eqT, eqF, neT, neF, ltT, ltF, leT, leF, nltT, nltF, nleT, nleF, nneT, nneF, flipX, List.getElem?_cons_zero, List.getElem?_cons_succ]
  refine loop_rule (fun m e g => ∃ (i : Nat) (u : Value), m = xs.length - i ∧ i ≤ xs.length ∧ e = [(0, v), (3, u), (4, .int .i64 i)] ∧ Kept h g [] ∧ Bld (since h.size) 5 (PrtC (since h.size)) g u (xs.take i)) ?_ _ xs.length _ _ (by omega) ⟨0, _, by omega, by omega, rfl, Kept.refl _ _, Bld.nil _ _ _ _⟩
  rintro m e g again ⟨i, u, rfl, hi, rfl, kg, bu⟩ ih
  by_cases hlt : i < xs.length
  · obtain ⟨x, hx⟩ : ∃ x, xs[i]? = some x := ⟨_, List.getElem?_eq_getElem hlt⟩
    have hw : IntKind.i64.wrap ((i : Int) + 1) = ((i + 1 : Nat) : Int) := by rw [IntKind.wrap_i64]; omega
    have yg := kg.1
    have sg := s.imp (ok' := ok) (R' := PrtC ok) (fun _ _ q => q) (fun cs x _ q => PrtC.frame kg.c q) (keep_of kg.c (by simp))
    obtain ⟨b, o, c, cs, es, lv, an, rfl, hkb, hg, hle, vt, hat, st⟩ := sg.at' hx
    have hgs := lt_of_get hg
    have hto := st.one
    simp only [oneCell] at hto
    simp (disch := first | omega | (simp only [newRow_size, Array.size_setIfInBounds, Array.size_push]; done) | (simp only [newRow_size, Array.size_setIfInBounds, Array.size_push]; omega)) [l49_14, r49_3, hl, hg, hat, hto, eqT, eqF, neT, neF, ltT, ltF, leT, leF, nltT, nltF, nleT, nleF, nneT, nneF, flipX, List.getElem?_cons_zero, List.getElem?_cons_succ, r49_4, r49_5, r49_6]
    have htl := hs2 x (List.mem_of_getElem? hx)
    have st1 := SlSeen.imp st (ok' := ok) (fun _ _ q => q) (keep_of (rowKept g [.int .i64 x.id, .int .i64 x.stamp, .string x.place, .int .i64 x.kind, vt] 0 []).c (by simp))
    have k1 := rowKept g [.int .i64 x.id, .int .i64 x.stamp, .string x.place, .int .i64 x.kind, vt] 0 []
    have e1 : hget (Ev.newRow g [.int .i64 x.id, .int .i64 x.stamp, .string x.place, .int .i64 x.kind, vt] 0 []) g.size = some (.cells [.int .i64 x.id, .int .i64 x.stamp, .string x.place, .int .i64 x.kind, vt] 0 true []) := by simp
    have z1 : (Ev.newRow g [.int .i64 x.id, .int .i64 x.stamp, .string x.place, .int .i64 x.kind, vt] 0 []).size = g.size + 1 := by simp
    generalize Ev.newRow g [.int .i64 x.id, .int .i64 x.stamp, .string x.place, .int .i64 x.kind, vt] 0 [] = g1 at st1 k1 e1 z1 ⊢
    refine loop_rule (fun m e g2 => ∃ (k : Nat) (t : Value), m = x.nodes.length - k ∧ k ≤ x.nodes.length ∧ e = [(0, .slice (some ⟨b, o, none⟩) xs.length c), (3, u), (4, .int .i64 i), (5, .pointer (some ⟨g.size, 0, none⟩)), (6, t), (7, .int .i64 k)] ∧ Kept g1 g2 [] ∧ Bld (since g1.size) 3 SeenC g2 t (x.nodes.take k)) ?_ _ x.nodes.length _ _ (by omega) ⟨0, _, by omega, by omega, rfl, Kept.refl _ _, Bld.nil _ _ _ _⟩
    rintro m e g2 again2 ⟨k, t, rfl, hk, rfl, k2, bt⟩ ih2
    have y2 := k2.1
    have e2 := (k2.get (b := g.size) (by omega) (by simp)).trans e1
    have hgs2 := lt_of_get e2
    have st2 := SlSeen.imp st1 (ok' := ok) (fun _ _ q => q) (keep_of k2.c (by simp))
    have hwk : IntKind.i64.wrap ((k : Int) + 1) = ((k + 1 : Nat) : Int) := by rw [IntKind.wrap_i64]; omega
    have htl' := st2.len
    by_cases hkl : k < x.nodes.length
    · obtain ⟨z, hz⟩ : ∃ z, x.nodes[k]? = some z := ⟨_, List.getElem?_eq_getElem hkl⟩
      obtain ⟨b', o', c', cs', es', lv', an', rfl, hkb', hg', hle', hR'⟩ := st2.at' hz
      have hR' : (cs'.drop (o' + k * 3)).take 3 = [.string z.place, .string z.data, .int .i64 z.ver] := hR'
      simp (disch := first | omega | (simp only [newRow_size, Array.size_setIfInBounds, Array.size_push]; done) | (simp only [newRow_size, Array.size_setIfInBounds, Array.size_push]; omega)) [l49_10, r49_7, e2, hg', hR', eqT, eqF, neT, neF, ltT, ltF, leT, leF, nltT, nltF, nleT, nleF, nneT, nneF, flipX, List.getElem?_cons_zero, List.getElem?_cons_succ, r49_8, srcOf]
      refine Ans.next (Bld.app (x := z) (bytes := 40) (ok := since g1.size) (w := 3) (R := SeenC) (xs := x.nodes.take k) ?_ rfl ?_ ?_ ?_ ?_) ?_
      · exact bt.frame (rowKept _ _ _ _) (fun _ _ q => q)
      · rw [List.length_take]; omega
      · show g1.size ≤ _; exact (by first | omega | (simp only [newRow_size, Array.size_setIfInBounds, Array.size_push]; done) | (simp only [newRow_size, Array.size_setIfInBounds, Array.size_push]; omega))
      · exact fun _ _ _ _ _ q => q
      · exact fun _ _ => rfl
      rintro t' g3 ⟨b3, k3, y3, g3', _⟩
      simp (disch := first | omega | (simp only [newRow_size, Array.size_setIfInBounds, Array.size_push]; done) | (simp only [newRow_size, Array.size_setIfInBounds, Array.size_push]; omega)) [r49_9, hwk, eqT, eqF, neT, neF, ltT, ltF, leT, leF, nltT, nltF, nleT, nleF, nneT, nneF, flipX, List.getElem?_cons_zero, List.getElem?_cons_succ]
      refine ih2 (x.nodes.length - (k + 1)) _ _ (by omega) ⟨k + 1, t', rfl, by omega, rfl, ?_, by rw [take_snoc hz]; exact b3⟩
      have y3' := k3.1
      simp at y3'
      refine ⟨by omega, fun c hc _ => ?_⟩
      rw [g3' c (by simp; omega) (bt.ne (by simp; omega))]
      simp (disch := first | omega | (simp only [newRow_size, Array.size_setIfInBounds, Array.size_push]; done) | (simp only [newRow_size, Array.size_setIfInBounds, Array.size_push]; omega)) []
      exact k2.get hc (by simp)
    · have hkx : k = x.nodes.length := by omega
      subst hkx
      rw [List.take_length] at bt
      have hvc := bt.sl.vc
      have hto := bt.sl.one
      simp only [vcells] at hvc
      simp only [oneCell] at hto
      simp (disch := first | omega | (simp only [newRow_size, Array.size_setIfInBounds, Array.size_push]; done) | (simp only [newRow_size, Array.size_setIfInBounds, Array.size_push]; omega)) [l49_10, r49_7, e2, htl', eqT, eqF, neT, neF, ltT, ltF, leT, leF, nltT, nltF, nleT, nleF, nneT, nneF, flipX, List.getElem?_cons_zero, List.getElem?_cons_succ, r49_11, r49_12, hvc, srcOf, hto]
      have kS : ∀ c y, c < g2.size → c ≠ g.size → hget (Ev.newRow (Array.setIfInBounds g2 g.size y) [.int .i64 x.id, .int .i64 x.stamp, .string x.place, .int .i64 x.kind, t] 5 []) c = hget g2 c := by
        intro c y hc hn
        simp (disch := first | omega | (simp only [newRow_size, Array.size_setIfInBounds, Array.size_push]; done) | (simp only [newRow_size, Array.size_setIfInBounds, Array.size_push]; omega)) []
      have kG : ∀ y, Kept g (Ev.newRow (Array.setIfInBounds g2 g.size y) [.int .i64 x.id, .int .i64 x.stamp, .string x.place, .int .i64 x.kind, t] 5 []) [] := fun y => ⟨(by first | omega | (simp only [newRow_size, Array.size_setIfInBounds, Array.size_push]; done) | (simp only [newRow_size, Array.size_setIfInBounds, Array.size_push]; omega)), fun c hc _ => by
        rw [kS c y (by omega) (by omega), k2.get (by omega) (by simp)]
        exact k1.get hc (by simp)⟩
      refine Ans.next (Bld.app (x := x) (bytes := 64) (ok := since h.size) (w := 5) (R := PrtC (since h.size)) (xs := xs.take i) ?_ rfl ?_ ?_ ?_ ?_) ?_
      · exact bu.frame (kG _) (fun _ _ q => PrtC.frame (kG _).c q)
      · rw [List.length_take]; omega
      · show h.size ≤ _; exact (by first | omega | (simp only [newRow_size, Array.size_setIfInBounds, Array.size_push]; done) | (simp only [newRow_size, Array.size_setIfInBounds, Array.size_push]; omega))
      · exact fun h' k cs y _ q => PrtC.frame k q
      · intro h' k
        refine ⟨t, rfl, ?_⟩
        refine SlSeen.imp bt.sl (fun b _ hb => ?_) (fun b cs hb hc => ?_)
        · have : g1.size ≤ b := hb
          show h.size ≤ b
          omega
        · have hb' : g1.size ≤ b := hb
          have hlt' := cel_lt hc
          rw [k.2 b (by simp; omega) (by simp), ← hc]
          exact cel_congr (kS _ _ hlt' (by omega))
      rintro u' g3 ⟨b3, k3, y3, g3', _⟩
      simp (disch := first | omega | (simp only [newRow_size, Array.size_setIfInBounds, Array.size_push]; done) | (simp only [newRow_size, Array.size_setIfInBounds, Array.size_push]; omega)) [r49_13, hw, eqT, eqF, neT, neF, ltT, ltF, leT, leF, nltT, nltF, nleT, nleF, nneT, nneF, flipX, List.getElem?_cons_zero, List.getElem?_cons_succ]
      refine ih (xs.length - (i + 1)) _ _ (by omega) ⟨i + 1, u', rfl, by omega, rfl, ?_, by rw [take_snoc hx]; exact b3⟩
      have y3' := k3.1
      simp at y3'
      refine ⟨by omega, fun c hc _ => ?_⟩
      rw [g3' c (by simp; omega) (bu.ne (by simp; omega))]
      exact ((kG _).get (by omega) (by simp)).trans (kg.get hc (by simp))
  · have hxi : i = xs.length := by omega
    subst hxi
    rw [List.take_length] at bu
    simp (disch := first | omega | (simp only [newRow_size, Array.size_setIfInBounds, Array.size_push]; done) | (simp only [newRow_size, Array.size_setIfInBounds, Array.size_push]; omega)) [l49_14, r49_3, hl, r49_15, eqT, eqF, neT, neF, ltT, ltF, leT, leF, nltT, nltF, nleT, nleF, nneT, nneF, flipX, List.getElem?_cons_zero, List.getElem?_cons_succ]
    exact Ans.of ⟨bu, kg⟩

end Go.Proofs.Ytkkagpchcefidaa
