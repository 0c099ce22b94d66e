/- Several texts in one: Qb0, Ev19. -/
import Derived.Test.YtkkagpchcefidaaW11

/- The library's lock in this program; the table of the seat's functions; the calls of the evaluator are the program's. -/
set_option linter.unusedSimpArgs false
set_option linter.unusedVariables false
namespace Go.Proofs.Ytkkagpchcefidaa
open Go.Ev

abbrev muLink : Go.Conc.Locks.MuLink := { lock := 59, unlock := 60, ilock := 68, iunlock := 69, lockSlow := 75, unlockSlow := 78, disable := 71, enable := 73, acquire := 74, relMerge := 76, cas32 := 72, add32 := 77, tMutex := 57, tIMutex := 55, tPMutex := 130, tPIMutex := 132, tPI32 := 134, tUP := 136, tNoCopy := 52, tU32 := 53 }
theorem muLib : Go.Conc.Locks.MuLib Try.prog muLink :=
  ⟨Try.func59, Try.func60, Try.func68, Try.func69, Try.func71, Try.func73, Try.func74, Try.func76, Try.func72, Try.func77, Try.underlying55, Try.runUnderlying55, Try.sizeOf55, Try.isAgg55, Try.zeroValue55, Try.underlying57, Try.runUnderlying57, Try.sizeOf57, Try.isAgg57, Try.zeroValue57, Try.underlying130, Try.runUnderlying130, Try.sizeOf130, Try.isAgg130, Try.zeroValue130, Try.underlying132, Try.runUnderlying132, Try.sizeOf132, Try.isAgg132, Try.zeroValue132, Try.underlying134, Try.runUnderlying134, Try.sizeOf134, Try.isAgg134, Try.zeroValue134, Try.underlying136, Try.runUnderlying136, Try.sizeOf136, Try.isAgg136, Try.zeroValue136, Try.underlying52, Try.runUnderlying52, Try.sizeOf52, Try.isAgg52, Try.zeroValue52, Try.underlying21, Try.runUnderlying21, Try.sizeOf21, Try.isAgg21, Try.zeroValue21, (by kernel_rfl)⟩

def X : FuncId → Option (List Value → H → Res)
  | 59 => some (flipX 0 1)
  | 60 => some (flipX 1 0)
  | _ => none
def XD : FuncId → Option (List Value → H → Res)
  | 60 => some (flipX 1 0)
  | _ => none

theorem X_ok : XOk Try.prog X := by
  intro f x h
  unfold X at h
  split at h <;> cases h
  · exact lock_ok muLib
  · exact unlock_ok muLib

theorem XD_ok : CallDOk Try.prog (cfX XD) := by
  intro f args h r h' e
  have e' : (fun g args h => if g = muLink.unlock then flipX 1 0 args h else none : CF) f args h = some (r, h') := by
    unfold cfX XD at e
    split at e
    · rename_i x hx
      split at hx <;> cases hx
      simpa using e
    · cases e
  exact unlock_dok muLib f args h r h' e'


def tbl : FuncId → Option AFn
  | 3 => some a3
  | 4 => some a4
  | 5 => some a5
  | 6 => some a6
  | 7 => some a7
  | 8 => some a8
  | 9 => some a9
  | 10 => some a10
  | 11 => some a11
  | 12 => some a12
  | 13 => some a13
  | 14 => some a14
  | 15 => some a15
  | 16 => some a16
  | 17 => some a17
  | 18 => some a18
  | 19 => some a19
  | 20 => some a20
  | 21 => some a21
  | 22 => some a22
  | 23 => some a23
  | 24 => some a24
  | 25 => some a25
  | 26 => some a26
  | 27 => some a27
  | 28 => some a28
  | 29 => some a29
  | 30 => some a30
  | 31 => some a31
  | 32 => some a32
  | 33 => some a33
  | 34 => some a34
  | 35 => some a35
  | 36 => some a36
  | 37 => some a37
  | 38 => some a38
  | 39 => some a39
  | 40 => some a40
  | 41 => some a41
  | 42 => some a42
  | 43 => some a43
  | 44 => some a44
  | 45 => some a45
  | 46 => some a46
  | 47 => some a47
  | 48 => some a48
  | 49 => some a49
  | 50 => some a50
  | 51 => some a51
  | 52 => some a52
  | 53 => some a53
  | 54 => some a54
  | 55 => some a55
  | 56 => some a56
  | 57 => some a57
  | 58 => some a58
  | 61 => some a61
  | 62 => some a62
  | 63 => some a63
  | 64 => some a64
  | 65 => some a65
  | 66 => some a66
  | 67 => some a67
  | 70 => some a70
  | _ => none

theorem tbl_ok : TblOk Try.prog tbl := by
  intro f af h
  unfold tbl at h
  split at h <;> cases h
  · exact ⟨_, _, Try.func3, a3_ok⟩
  · exact ⟨_, _, Try.func4, a4_ok⟩
  · exact ⟨_, _, Try.func5, a5_ok⟩
  · exact ⟨_, _, Try.func6, a6_ok⟩
  · exact ⟨_, _, Try.func7, a7_ok⟩
  · exact ⟨_, _, Try.func8, a8_ok⟩
  · exact ⟨_, _, Try.func9, a9_ok⟩
  · exact ⟨_, _, Try.func10, a10_ok⟩
  · exact ⟨_, _, Try.func11, a11_ok⟩
  · exact ⟨_, _, Try.func12, a12_ok⟩
  · exact ⟨_, _, Try.func13, a13_ok⟩
  · exact ⟨_, _, Try.func14, a14_ok⟩
  · exact ⟨_, _, Try.func15, a15_ok⟩
  · exact ⟨_, _, Try.func16, a16_ok⟩
  · exact ⟨_, _, Try.func17, a17_ok⟩
  · exact ⟨_, _, Try.func18, a18_ok⟩
  · exact ⟨_, _, Try.func19, a19_ok⟩
  · exact ⟨_, _, Try.func20, a20_ok⟩
  · exact ⟨_, _, Try.func21, a21_ok⟩
  · exact ⟨_, _, Try.func22, a22_ok⟩
  · exact ⟨_, _, Try.func23, a23_ok⟩
  · exact ⟨_, _, Try.func24, a24_ok⟩
  · exact ⟨_, _, Try.func25, a25_ok⟩
  · exact ⟨_, _, Try.func26, a26_ok⟩
  · exact ⟨_, _, Try.func27, a27_ok⟩
  · exact ⟨_, _, Try.func28, a28_ok⟩
  · exact ⟨_, _, Try.func29, a29_ok⟩
  · exact ⟨_, _, Try.func30, a30_ok⟩
  · exact ⟨_, _, Try.func31, a31_ok⟩
  · exact ⟨_, _, Try.func32, a32_ok⟩
  · exact ⟨_, _, Try.func33, a33_ok⟩
  · exact ⟨_, _, Try.func34, a34_ok⟩
  · exact ⟨_, _, Try.func35, a35_ok⟩
  · exact ⟨_, _, Try.func36, a36_ok⟩
  · exact ⟨_, _, Try.func37, a37_ok⟩
  · exact ⟨_, _, Try.func38, a38_ok⟩
  · exact ⟨_, _, Try.func39, a39_ok⟩
  · exact ⟨_, _, Try.func40, a40_ok⟩
  · exact ⟨_, _, Try.func41, a41_ok⟩
  · exact ⟨_, _, Try.func42, a42_ok⟩
  · exact ⟨_, _, Try.func43, a43_ok⟩
  · exact ⟨_, _, Try.func44, a44_ok⟩
  · exact ⟨_, _, Try.func45, a45_ok⟩
  · exact ⟨_, _, Try.func46, a46_ok⟩
  · exact ⟨_, _, Try.func47, a47_ok⟩
  · exact ⟨_, _, Try.func48, a48_ok⟩
  · exact ⟨_, _, Try.func49, a49_ok⟩
  · exact ⟨_, _, Try.func50, a50_ok⟩
  · exact ⟨_, _, Try.func51, a51_ok⟩
  · exact ⟨_, _, Try.func52, a52_ok⟩
  · exact ⟨_, _, Try.func53, a53_ok⟩
  · exact ⟨_, _, Try.func54, a54_ok⟩
  · exact ⟨_, _, Try.func55, a55_ok⟩
  · exact ⟨_, _, Try.func56, a56_ok⟩
  · exact ⟨_, _, Try.func57, a57_ok⟩
  · exact ⟨_, _, Try.func58, a58_ok⟩
  · exact ⟨_, _, Try.func61, a61_ok⟩
  · exact ⟨_, _, Try.func62, a62_ok⟩
  · exact ⟨_, _, Try.func63, a63_ok⟩
  · exact ⟨_, _, Try.func64, a64_ok⟩
  · exact ⟨_, _, Try.func65, a65_ok⟩
  · exact ⟨_, _, Try.func66, a66_ok⟩
  · exact ⟨_, _, Try.func67, a67_ok⟩
  · exact ⟨_, _, Try.func70, a70_ok⟩

abbrev cf (F : Nat) : CF := evFn X XD tbl F

theorem cf_ok (F : Nat) : CallOk Try.prog (cf F) := evFn_sound (Checked.mixed Try.checked) tbl_ok X_ok XD_ok F

theorem cf_step {F : Nat} {f : FuncId} {args : List Value} {h : H} {a : AFn} (hX : X f = none) (ht : tbl f = some a) (hl : args.length ≤ a.ntmps) :
    cf (F + 1) f args h = evC F (cf F) a.body (endK (cfX XD) a.results) noK (endK (cfX XD) a.results) (envOf 0 args) h [] := by
  simp only [cf, evFn, hX, ht, if_pos hl]
  rfl

theorem cf_X {F : Nat} {f : FuncId} {args : List Value} {h : H} {x : List Value → H → Res} (hX : X f = some x) : cf (F + 1) f args h = x args h := by
  simp only [cf, evFn, hX]

end Go.Proofs.Ytkkagpchcefidaa

/- Ev19: what is left as it was, by lists of blocks; a rule for loops; small equations. -/
set_option linter.unusedSimpArgs false
set_option linter.unusedVariables false
namespace Go.Ev

/-- What is left as it was: all that was there, but for the blocks of a list. -/
def Kept (h h' : H) (L : List Nat) : Prop := h.size ≤ h'.size ∧ ∀ b, b < h.size → b ∉ L → hget h' b = hget h b

theorem Kept.refl (h : H) (L : List Nat) : Kept h h L := ⟨Nat.le_refl _, fun _ _ _ => rfl⟩
theorem Kept.trans {h h1 h2 : H} {L : List Nat} (a : Kept h h1 L) (b : Kept h1 h2 L) : Kept h h2 L :=
  ⟨Nat.le_trans a.1 b.1, fun x hx hs => (b.2 x (Nat.lt_of_lt_of_le hx a.1) hs).trans (a.2 x hx hs)⟩
theorem Kept.get {h h' : H} {L : List Nat} (a : Kept h h' L) {b : Nat} (hb : b < h.size) (hs : b ∉ L) : hget h' b = hget h b := a.2 b hb hs
theorem Kept.weak {h h' : H} {L M : List Nat} (a : Kept h h' L) (hs : ∀ b ∈ L, b ∈ M) : Kept h h' M := ⟨a.1, fun b hb h => a.2 b hb fun q => h (hs b q)⟩
theorem Kept.of_nil {h h' : H} {L : List Nat} (a : Kept h h' []) : Kept h h' L := a.weak nofun

/-- A loop: a relation of what is left to do, the slots and the memory. -/
theorem loop_rule {cf : CF} {F0 : Nat} {live : List Nat} {c : ACode} {ke : Nat → K} {kr : K} {ds : Ds} {Q : Value → H → Prop} (I : Nat → Env → H → Prop)
    (step : ∀ m s h again, I m s h → (∀ m' s' h', m' < m → I m' s' h' → Ans (again s' h' ds) Q) → Ans (evC F0 cf c (keepK live again) ke kr s h ds) Q) :
    ∀ fuel m s h, m < fuel → I m s h → Ans (loopK F0 cf live c ke kr fuel s h ds) Q := by
  intro fuel
  induction fuel with
  | zero => intro m s h hm; omega
  | succ n ih =>
    intro m s h hm hi
    rw [loopK_succ]
    exact step m s h _ hi fun m' s' h' hlt hi' => ih m' s' h' (by omega) hi'

theorem wrap_id {n : Int} (h1 : -9223372036854775808 ≤ n) (h2 : n < 9223372036854775808) : IntKind.i64.wrap n = n := wrap_in h1 (by omega)

/-! ### decisions by arithmetic (for simp with omega as its discharger) -/
theorem eqT {a b : Int} (h : a = b) : (a == b) = true := by simpa using h
theorem eqF {a b : Int} (h : ¬ a = b) : (a == b) = false := by simpa using h
theorem neT {a b : Int} (h : ¬ a = b) : (a != b) = true := by simpa using h
theorem neF {a b : Int} (h : a = b) : (a != b) = false := by simpa using h
theorem ltT {a b : Int} (h : a < b) : (a < b) = True := by simpa using h
theorem ltF {a b : Int} (h : ¬ a < b) : (a < b) = False := by simpa using h
theorem leT {a b : Int} (h : a ≤ b) : (a ≤ b) = True := by simpa using h
theorem leF {a b : Int} (h : ¬ a ≤ b) : (a ≤ b) = False := by simpa using h
theorem nltT {a b : Nat} (h : a < b) : (a < b) = True := by simpa using h
theorem nltF {a b : Nat} (h : ¬ a < b) : (a < b) = False := by simpa using h
theorem nleT {a b : Nat} (h : a ≤ b) : (a ≤ b) = True := by simpa using h
theorem nleF {a b : Nat} (h : ¬ a ≤ b) : (a ≤ b) = False := by simpa using h
theorem nneT {a b : Nat} (h : a = b) : (a = b) = True := by simpa using h
theorem nneF {a b : Nat} (h : ¬ a = b) : (a = b) = False := by simpa using h

@[simp] theorem set_push {h : H} {x y : Blk} {b : Nat} (hb : b = h.size) : Array.setIfInBounds (h.push x) b y = h.push y := by
  subst hb
  apply Array.ext
  · simp
  · intro i h1 h2
    simp only [Array.size_setIfInBounds, Array.size_push] at h1
    rw [Array.getElem_setIfInBounds]
    · by_cases e : h.size = i
      · subst e; simp
      · rw [if_neg e, Array.getElem_push_lt (by omega), Array.getElem_push_lt (by omega)]
    · simpa using h1
@[simp] theorem set_row {h : H} {cs : List Value} {es b : Nat} {an : List Nat} {y : Blk} (hb : b = h.size) : Array.setIfInBounds (newRow h cs es an) b y = h.push y := set_push hb
theorem push_row {h : H} {cs : List Value} {es : Nat} {an : List Nat} : h.push (.cells cs es true an) = newRow h cs es an := rfl
attribute [simp] push_row

/-! ### drawn regions in which nothing is read beside a write: no record is kept -/
def evE (cf : CF) (l : List DOp) (s : Env) (h : H) (kn : K) (keep : List Nat) (ds : Ds) : Res := goD cf l s h fun _ s' h' => kn (s'.keep keep) h' ds
def nextE (x : Option (Value × H)) (cf : CF) (d : Option Nat) (l : List DOp) (s : Env) (kn : K) (keep : List Nat) (ds : Ds) : Res := match x with
  | some (v, h') => evE cf l (setD s d v) h' kn keep ds
  | none => none
def guardE (v : Value) (b : Bool) (ac : AAct) (cf : CF) (d : Option Nat) (l : List DOp) (e s : Env) (h : H) (kn : K) (keep : List Nat) (ds : Ds) : Res := match v with
  | .bool c => bif c == b then nextE (evAct cf ac e h) cf d l s kn keep ds else evE cf l (setD s d unset) h kn keep ds
  | .tuple ⟨[]⟩ => evE cf l (setD s d unset) h kn keep ds
  | _ => none
section
variable {cf : CF} {F : Nat} {s e : Env} {h : H} {kn kr : K} {ke : Nat → K} {ds : Ds} {keep : List Nat} {d : Option Nat} {v : Value} {l : List DOp}
@[simp high] theorem evC_regionE {ops : List DOp} : evC F cf (.regionD ops [] keep) kn ke kr s h ds = evE cf ops s h kn keep ds := by
  show evRegionD cf ops [] s h _ = _
  unfold evE evRegionD
  rw [goD_eq]
  cases trace cf ops s h with
  | none => rfl
  | some p => obtain ⟨a, b, c⟩ := p; simp [chks]
@[simp] theorem evE_nil : evE cf [] s h kn keep ds = kn (s.keep keep) h ds := nr rfl
@[simp] theorem evE_op {i : Nat} {o : AOp} {sl : List Nat} : evE cf (⟨i, ⟨d, none, .op o⟩, sl⟩ :: l) s h kn keep ds = nextE (evOp o (s.keep sl) h) cf d l s kn keep ds := by
  simp only [evE, goD, wantedA, evAct, nextE]
  cases evOp o (s.keep sl) h with
  | none => rfl
  | some p => rfl
@[simp] theorem evE_call {i : Nat} {f : Operand} {args : List Operand} {sl : List Nat} : evE cf (⟨i, ⟨d, none, .call f args⟩, sl⟩ :: l) s h kn keep ds = nextE (callV cf (aeval (s.keep sl) f) (args.map (aeval (s.keep sl))) h) cf d l s kn keep ds := by
  have e : evAct cf (.call f args) (s.keep sl) h = callV cf (aeval (s.keep sl) f) (args.map (aeval (s.keep sl))) h := by
    simp only [evAct, callV]
    split <;> (rename_i hf; split <;> simp_all)
  rw [← e]
  simp only [evE, goD, wantedA, nextE]
  cases evAct cf (.call f args) (s.keep sl) h with
  | none => rfl
  | some p => rfl
@[simp] theorem evE_guard {i t : Nat} {b : Bool} {ac : AAct} {sl : List Nat} : evE cf (⟨i, ⟨d, some (t, b), ac⟩, sl⟩ :: l) s h kn keep ds = guardE ((s.keep sl).get t) b ac cf d l (s.keep sl) s h kn keep ds := by
  simp only [evE, goD, wantedA, guardE]
  generalize (s.keep sl).get t = u
  cases u with
  | bool c =>
    cases hcb : c == b with
    | true =>
      simp only [hcb, cond_true, nextE]
      cases evAct cf ac (s.keep sl) h with
      | none => rfl
      | some p => rfl
    | false => simp [hcb, evE]
  | tuple vs =>
    obtain ⟨l'⟩ := vs
    cases l' with
    | nil => simp [evE]
    | cons _ _ => rfl
  | _ => rfl
@[simp] theorem nextE_some {h' : H} : nextE (some (v, h')) cf d l s kn keep ds = evE cf l (setD s d v) h' kn keep ds := nr rfl
@[simp] theorem guardE_tt {ac : AAct} : guardE (.bool true) true ac cf d l e s h kn keep ds = nextE (evAct cf ac e h) cf d l s kn keep ds := nr rfl
@[simp] theorem guardE_ff {ac : AAct} : guardE (.bool false) false ac cf d l e s h kn keep ds = nextE (evAct cf ac e h) cf d l s kn keep ds := nr rfl
@[simp] theorem guardE_tf {ac : AAct} : guardE (.bool true) false ac cf d l e s h kn keep ds = evE cf l (setD s d unset) h kn keep ds := nr rfl
@[simp] theorem guardE_ft {ac : AAct} : guardE (.bool false) true ac cf d l e s h kn keep ds = evE cf l (setD s d unset) h kn keep ds := nr rfl
@[simp] theorem guardE_un {b : Bool} {ac : AAct} : guardE unset b ac cf d l e s h kn keep ds = evE cf l (setD s d unset) h kn keep ds := nr rfl
theorem Ans.nextE {x : Option (Value × H)} {Q R : Value → H → Prop} (a : Ans x Q) (hk : ∀ v h, Q v h → Ans (evE cf l (setD s d v) h kn keep ds) R) : Ans (Ev.nextE x cf d l s kn keep ds) R := by
  obtain ⟨v, h, rfl, q⟩ := a; exact hk v h q
theorem evAct_call {f : Operand} {args : List Operand} : evAct cf (.call f args) s h = callV cf (aeval s f) (args.map (aeval s)) h := by
  simp only [evAct, callV]
  split <;> (rename_i hf; split <;> simp_all)
attribute [simp] evAct_call
theorem Ans.nextD {x : Option (Value × H)} {Q R : Value → H → Prop} {ts : List TR} {q : DK} (a : Ans x Q) (hk : ∀ v h', Q v h' → Ans (evD cf l (ts ++ [⟨e, h, true, v⟩]) (setD s d v) h' q) R) : Ans (Ev.nextD x cf d l ts e s h q) R := by
  obtain ⟨v, h, rfl, q⟩ := a; exact hk v h q
end

/-- An append whose source is known. -/
def appV (src : Option (Nat × List Value)) (h : H) (es bytes : Nat) (d : Value) : Option (Value × H) := match src with
  | some (n, new) => if new.all oneCell = true then appendTo h es bytes d n new else none
  | none => none
@[simp ↓ high] theorem evOp_append {str : Bool} {es bytes : Nat} {d x : Operand} {s : Env} {h : H} : evOp (.append str es bytes d x) s h = if isText (aeval s x) = str then appV (srcOf h es (aeval s x)) h es bytes (aeval s d) else none := nr rfl
@[simp] theorem appV_some {n : Nat} {new : List Value} {h : H} {es bytes : Nat} {d : Value} : appV (some (n, new)) h es bytes d = if new.all oneCell = true then appendTo h es bytes d n new else none := nr rfl

/-! ### the looks again, one by one -/
def chkA (cf : CF) (d : Option DOp) (t : Option TR) (ts : List TR) (h1 : H) (ps : List Nat) : Bool := match d, t with
  | some d, some t => ps.all fun p => chk1 cf d t (hAt ts h1 p)
  | _, _ => false
def chkV (x : Option (Value × H)) (w : Value) : Bool := match x with
  | some (v, _) => sameV v w
  | none => false
def hOf (x : Option TR) (h1 : H) : H := match x with
  | some t => t.hin
  | none => h1
section
variable {cf : CF} {ops : List DOp} {ts : List TR} {h h1 : H} {wins : List (Nat × List Nat)} {keep : List Nat} {kn : K} {ds : Ds} {s e : Env}
theorem dk_go : DK.go cf ⟨ops, wins, keep, kn, ds⟩ ts s h = if chks cf ops ts h wins = true then kn (s.keep keep) h ds else none := nr rfl
theorem chks_nil : chks cf ops ts h1 [] = true := nr rfl
theorem chks_cons {x : Nat} {ps : List Nat} {r : List (Nat × List Nat)} : chks cf ops ts h1 ((x, ps) :: r) = (chkA cf ops[x]? ts[x]? ts h1 ps && chks cf ops ts h1 r) := by
  simp only [chks, chkA]
  rcases ops[x]? with _ | d <;> rcases ts[x]? with _ | t <;> rfl
theorem chkA_nil {d : DOp} {t : TR} : chkA cf (some d) (some t) ts h1 [] = true := nr rfl
theorem chkA_cons {d : DOp} {t : TR} {p : Nat} {ps : List Nat} : chkA cf (some d) (some t) ts h1 (p :: ps) = (chk1 cf d t (hAt ts h1 p) && chkA cf (some d) (some t) ts h1 ps) := nr rfl
theorem chk1_no {d : DOp} {v : Value} {h0 : H} : chk1 cf d ⟨e, h0, false, v⟩ h = true := nr rfl
theorem chk1_yes {i : Nat} {dst : Option Nat} {g : Option (Nat × Bool)} {ac : AAct} {sl : List Nat} {v : Value} {h0 : H} : chk1 cf ⟨i, ⟨dst, g, ac⟩, sl⟩ ⟨e, h0, true, v⟩ h = chkV (evAct cf ac e h) v := nr rfl
theorem chkV_some {v w : Value} : chkV (some (v, h)) w = sameV v w := nr rfl
theorem hAt_eq {k : Nat} : hAt ts h1 k = hOf ts[k]? h1 := nr rfl
theorem hOf_some {h0 : H} {b : Bool} {v : Value} : hOf (some ⟨e, h0, b, v⟩) h1 = h0 := nr rfl
theorem hOf_none : hOf none h1 = h1 := nr rfl
end

/-- How long a slice is. -/
def lenV : Value → Option Value
  | .slice none 0 0 => some (.int .i64 0)
  | .slice (some _) n _ => some (.int .i64 n)
  | _ => none
@[simp] theorem lenV_nil : lenV (.slice none 0 0) = some (.int .i64 0) := nr rfl
@[simp] theorem lenV_some {a : Addr} {n c : Nat} : lenV (.slice (some a) n c) = some (.int .i64 n) := nr rfl
@[simp ↓ high] theorem evOp_lenSlice {x : Operand} {s : Env} {h : H} : evOp (.lenSlice x) s h = (lenV (aeval s x)).map fun v => (v, h) := by
  show (match aeval s x with
    | .slice none 0 0 => some (Value.int .i64 0, h)
    | .slice (some _) n _ => some (.int .i64 n, h)
    | _ => none) = _
  unfold lenV
  split <;> rfl

theorem fn_id {α : Sort _} {β : Sort _} (f : α → β) {a b : α} (h : a = b) : f a = f b := by rw [h]

end Go.Ev
