/- Ev19: what is left as it was, by lists of blocks; a rule for loops; small equations. -/
import Derived.Test.YtefbpobeclkbhaaEv18
set_option linter.unusedSimpArgs false
set_option linter.unusedVariables false
namespace Go.Ev

/-- What is left as it was: all that was there, but for the blocks of a list. -/
def Kept (h h' : H) (L : List Nat) : Prop := h.size ≤ h'.size ∧ ∀ b, b < h.size → b ∉ L → hget h' b = hget h b

theorem Kept.refl (h : H) (L : List Nat) : Kept h h L := ⟨Nat.le_refl _, fun _ _ _ => rfl⟩
theorem Kept.trans {h h1 h2 : H} {L : List Nat} (a : Kept h h1 L) (b : Kept h1 h2 L) : Kept h h2 L :=
  ⟨Nat.le_trans a.1 b.1, fun x hx hs => (b.2 x (Nat.lt_of_lt_of_le hx a.1) hs).trans (a.2 x hx hs)⟩
theorem Kept.get {h h' : H} {L : List Nat} (a : Kept h h' L) {b : Nat} (hb : b < h.size) (hs : b ∉ L) : hget h' b = hget h b := a.2 b hb hs
theorem Kept.weak {h h' : H} {L M : List Nat} (a : Kept h h' L) (hs : ∀ b ∈ L, b ∈ M) : Kept h h' M := ⟨a.1, fun b hb h => a.2 b hb fun q => h (hs b q)⟩
theorem Kept.of_nil {h h' : H} {L : List Nat} (a : Kept h h' []) : Kept h h' L := a.weak nofun

/-- A loop: a relation of what is left to do, the slots and the memory. -/
theorem loop_rule {cf : CF} {F0 : Nat} {live : List Nat} {c : ACode} {ke : Nat → K} {kr : K} {ds : Ds} {Q : Value → H → Prop} (I : Nat → Env → H → Prop)
    (step : ∀ m s h again, I m s h → (∀ m' s' h', m' < m → I m' s' h' → Ans (again s' h' ds) Q) → Ans (evC F0 cf c (keepK live again) ke kr s h ds) Q) :
    ∀ fuel m s h, m < fuel → I m s h → Ans (loopK F0 cf live c ke kr fuel s h ds) Q := by
  intro fuel
  induction fuel with
  | zero => intro m s h hm; omega
  | succ n ih =>
    intro m s h hm hi
    rw [loopK_succ]
    exact step m s h _ hi fun m' s' h' hlt hi' => ih m' s' h' (by omega) hi'

theorem wrap_id {n : Int} (h1 : -9223372036854775808 ≤ n) (h2 : n < 9223372036854775808) : IntKind.i64.wrap n = n := wrap_in h1 (by omega)

/-! ### decisions by arithmetic (for simp with omega as its discharger) -/
theorem eqT {a b : Int} (h : a = b) : (a == b) = true := by simpa using h
theorem eqF {a b : Int} (h : ¬ a = b) : (a == b) = false := by simpa using h
theorem neT {a b : Int} (h : ¬ a = b) : (a != b) = true := by simpa using h
theorem neF {a b : Int} (h : a = b) : (a != b) = false := by simpa using h
theorem ltT {a b : Int} (h : a < b) : (a < b) = True := by simpa using h
theorem ltF {a b : Int} (h : ¬ a < b) : (a < b) = False := by simpa using h
theorem leT {a b : Int} (h : a ≤ b) : (a ≤ b) = True := by simpa using h
theorem leF {a b : Int} (h : ¬ a ≤ b) : (a ≤ b) = False := by simpa using h
theorem nltT {a b : Nat} (h : a < b) : (a < b) = True := by simpa using h
theorem nltF {a b : Nat} (h : ¬ a < b) : (a < b) = False := by simpa using h
theorem nleT {a b : Nat} (h : a ≤ b) : (a ≤ b) = True := by simpa using h
theorem nleF {a b : Nat} (h : ¬ a ≤ b) : (a ≤ b) = False := by simpa using h
theorem nneT {a b : Nat} (h : a = b) : (a = b) = True := by simpa using h
theorem nneF {a b : Nat} (h : ¬ a = b) : (a = b) = False := by simpa using h

@[simp] theorem set_push {h : H} {x y : Blk} {b : Nat} (hb : b = h.size) : Array.setIfInBounds (h.push x) b y = h.push y := by
  subst hb
  apply Array.ext
  · simp
  · intro i h1 h2
    simp only [Array.size_setIfInBounds, Array.size_push] at h1
    rw [Array.getElem_setIfInBounds]
    · by_cases e : h.size = i
      · subst e; simp
      · rw [if_neg e, Array.getElem_push_lt (by omega), Array.getElem_push_lt (by omega)]
    · simpa using h1
@[simp] theorem set_row {h : H} {cs : List Value} {es b : Nat} {an : List Nat} {y : Blk} (hb : b = h.size) : Array.setIfInBounds (newRow h cs es an) b y = h.push y := set_push hb
theorem push_row {h : H} {cs : List Value} {es : Nat} {an : List Nat} : h.push (.cells cs es true an) = newRow h cs es an := rfl
attribute [simp] push_row

/-! ### drawn regions in which nothing is read beside a write: no record is kept -/
def evE (cf : CF) (l : List DOp) (s : Env) (h : H) (kn : K) (keep : List Nat) (ds : Ds) : Res := goD cf l s h fun _ s' h' => kn (s'.keep keep) h' ds
def nextE (x : Option (Value × H)) (cf : CF) (d : Option Nat) (l : List DOp) (s : Env) (kn : K) (keep : List Nat) (ds : Ds) : Res := match x with
  | some (v, h') => evE cf l (setD s d v) h' kn keep ds
  | none => none
def guardE (v : Value) (b : Bool) (ac : AAct) (cf : CF) (d : Option Nat) (l : List DOp) (e s : Env) (h : H) (kn : K) (keep : List Nat) (ds : Ds) : Res := match v with
  | .bool c => bif c == b then nextE (evAct cf ac e h) cf d l s kn keep ds else evE cf l (setD s d unset) h kn keep ds
  | .tuple ⟨[]⟩ => evE cf l (setD s d unset) h kn keep ds
  | _ => none
section
variable {cf : CF} {F : Nat} {s e : Env} {h : H} {kn kr : K} {ke : Nat → K} {ds : Ds} {keep : List Nat} {d : Option Nat} {v : Value} {l : List DOp}
@[simp high] theorem evC_regionE {ops : List DOp} : evC F cf (.regionD ops [] keep) kn ke kr s h ds = evE cf ops s h kn keep ds := by
  show evRegionD cf ops [] s h _ = _
  unfold evE evRegionD
  rw [goD_eq]
  cases trace cf ops s h with
  | none => rfl
  | some p => obtain ⟨a, b, c⟩ := p; simp [chks]
@[simp] theorem evE_nil : evE cf [] s h kn keep ds = kn (s.keep keep) h ds := nr rfl
@[simp] theorem evE_op {i : Nat} {o : AOp} {sl : List Nat} : evE cf (⟨i, ⟨d, none, .op o⟩, sl⟩ :: l) s h kn keep ds = nextE (evOp o (s.keep sl) h) cf d l s kn keep ds := by
  simp only [evE, goD, wantedA, evAct, nextE]
  cases evOp o (s.keep sl) h with
  | none => rfl
  | some p => rfl
@[simp] theorem evE_call {i : Nat} {f : Operand} {args : List Operand} {sl : List Nat} : evE cf (⟨i, ⟨d, none, .call f args⟩, sl⟩ :: l) s h kn keep ds = nextE (callV cf (aeval (s.keep sl) f) (args.map (aeval (s.keep sl))) h) cf d l s kn keep ds := by
  have e : evAct cf (.call f args) (s.keep sl) h = callV cf (aeval (s.keep sl) f) (args.map (aeval (s.keep sl))) h := by
    simp only [evAct, callV]
    split <;> (rename_i hf; split <;> simp_all)
  rw [← e]
  simp only [evE, goD, wantedA, nextE]
  cases evAct cf (.call f args) (s.keep sl) h with
  | none => rfl
  | some p => rfl
@[simp] theorem evE_guard {i t : Nat} {b : Bool} {ac : AAct} {sl : List Nat} : evE cf (⟨i, ⟨d, some (t, b), ac⟩, sl⟩ :: l) s h kn keep ds = guardE ((s.keep sl).get t) b ac cf d l (s.keep sl) s h kn keep ds := by
  simp only [evE, goD, wantedA, guardE]
  generalize (s.keep sl).get t = u
  cases u with
  | bool c =>
    cases hcb : c == b with
    | true =>
      simp only [hcb, cond_true, nextE]
      cases evAct cf ac (s.keep sl) h with
      | none => rfl
      | some p => rfl
    | false => simp [hcb, evE]
  | tuple vs =>
    obtain ⟨l'⟩ := vs
    cases l' with
    | nil => simp [evE]
    | cons _ _ => rfl
  | _ => rfl
@[simp] theorem nextE_some {h' : H} : nextE (some (v, h')) cf d l s kn keep ds = evE cf l (setD s d v) h' kn keep ds := nr rfl
@[simp] theorem guardE_tt {ac : AAct} : guardE (.bool true) true ac cf d l e s h kn keep ds = nextE (evAct cf ac e h) cf d l s kn keep ds := nr rfl
@[simp] theorem guardE_ff {ac : AAct} : guardE (.bool false) false ac cf d l e s h kn keep ds = nextE (evAct cf ac e h) cf d l s kn keep ds := nr rfl
@[simp] theorem guardE_tf {ac : AAct} : guardE (.bool true) false ac cf d l e s h kn keep ds = evE cf l (setD s d unset) h kn keep ds := nr rfl
@[simp] theorem guardE_ft {ac : AAct} : guardE (.bool false) true ac cf d l e s h kn keep ds = evE cf l (setD s d unset) h kn keep ds := nr rfl
@[simp] theorem guardE_un {b : Bool} {ac : AAct} : guardE unset b ac cf d l e s h kn keep ds = evE cf l (setD s d unset) h kn keep ds := nr rfl
theorem Ans.nextE {x : Option (Value × H)} {Q R : Value → H → Prop} (a : Ans x Q) (hk : ∀ v h, Q v h → Ans (evE cf l (setD s d v) h kn keep ds) R) : Ans (Ev.nextE x cf d l s kn keep ds) R := by
  obtain ⟨v, h, rfl, q⟩ := a; exact hk v h q
theorem evAct_call {f : Operand} {args : List Operand} : evAct cf (.call f args) s h = callV cf (aeval s f) (args.map (aeval s)) h := by
  simp only [evAct, callV]
  split <;> (rename_i hf; split <;> simp_all)
attribute [simp] evAct_call
theorem Ans.nextD {x : Option (Value × H)} {Q R : Value → H → Prop} {ts : List TR} {q : DK} (a : Ans x Q) (hk : ∀ v h', Q v h' → Ans (evD cf l (ts ++ [⟨e, h, true, v⟩]) (setD s d v) h' q) R) : Ans (Ev.nextD x cf d l ts e s h q) R := by
  obtain ⟨v, h, rfl, q⟩ := a; exact hk v h q
end

/-- An append whose source is known. -/
def appV (src : Option (Nat × List Value)) (h : H) (es bytes : Nat) (d : Value) : Option (Value × H) := match src with
  | some (n, new) => if new.all oneCell = true then appendTo h es bytes d n new else none
  | none => none
@[simp ↓ high] theorem evOp_append {str : Bool} {es bytes : Nat} {d x : Operand} {s : Env} {h : H} : evOp (.append str es bytes d x) s h = if isText (aeval s x) = str then appV (srcOf h es (aeval s x)) h es bytes (aeval s d) else none := nr rfl
@[simp] theorem appV_some {n : Nat} {new : List Value} {h : H} {es bytes : Nat} {d : Value} : appV (some (n, new)) h es bytes d = if new.all oneCell = true then appendTo h es bytes d n new else none := nr rfl

/-! ### the looks again, one by one -/
def chkA (cf : CF) (d : Option DOp) (t : Option TR) (ts : List TR) (h1 : H) (ps : List Nat) : Bool := match d, t with
  | some d, some t => ps.all fun p => chk1 cf d t (hAt ts h1 p)
  | _, _ => false
def chkV (x : Option (Value × H)) (w : Value) : Bool := match x with
  | some (v, _) => sameV v w
  | none => false
def hOf (x : Option TR) (h1 : H) : H := match x with
  | some t => t.hin
  | none => h1
section
variable {cf : CF} {ops : List DOp} {ts : List TR} {h h1 : H} {wins : List (Nat × List Nat)} {keep : List Nat} {kn : K} {ds : Ds} {s e : Env}
theorem dk_go : DK.go cf ⟨ops, wins, keep, kn, ds⟩ ts s h = if chks cf ops ts h wins = true then kn (s.keep keep) h ds else none := nr rfl
theorem chks_nil : chks cf ops ts h1 [] = true := nr rfl
theorem chks_cons {x : Nat} {ps : List Nat} {r : List (Nat × List Nat)} : chks cf ops ts h1 ((x, ps) :: r) = (chkA cf ops[x]? ts[x]? ts h1 ps && chks cf ops ts h1 r) := by
  simp only [chks, chkA]
  rcases ops[x]? with _ | d <;> rcases ts[x]? with _ | t <;> rfl
theorem chkA_nil {d : DOp} {t : TR} : chkA cf (some d) (some t) ts h1 [] = true := nr rfl
theorem chkA_cons {d : DOp} {t : TR} {p : Nat} {ps : List Nat} : chkA cf (some d) (some t) ts h1 (p :: ps) = (chk1 cf d t (hAt ts h1 p) && chkA cf (some d) (some t) ts h1 ps) := nr rfl
theorem chk1_no {d : DOp} {v : Value} {h0 : H} : chk1 cf d ⟨e, h0, false, v⟩ h = true := nr rfl
theorem chk1_yes {i : Nat} {dst : Option Nat} {g : Option (Nat × Bool)} {ac : AAct} {sl : List Nat} {v : Value} {h0 : H} : chk1 cf ⟨i, ⟨dst, g, ac⟩, sl⟩ ⟨e, h0, true, v⟩ h = chkV (evAct cf ac e h) v := nr rfl
theorem chkV_some {v w : Value} : chkV (some (v, h)) w = sameV v w := nr rfl
theorem hAt_eq {k : Nat} : hAt ts h1 k = hOf ts[k]? h1 := nr rfl
theorem hOf_some {h0 : H} {b : Bool} {v : Value} : hOf (some ⟨e, h0, b, v⟩) h1 = h0 := nr rfl
theorem hOf_none : hOf none h1 = h1 := nr rfl
end

/-- How long a slice is. -/
def lenV : Value → Option Value
  | .slice none 0 0 => some (.int .i64 0)
  | .slice (some _) n _ => some (.int .i64 n)
  | _ => none
@[simp] theorem lenV_nil : lenV (.slice none 0 0) = some (.int .i64 0) := nr rfl
@[simp] theorem lenV_some {a : Addr} {n c : Nat} : lenV (.slice (some a) n c) = some (.int .i64 n) := nr rfl
@[simp ↓ high] theorem evOp_lenSlice {x : Operand} {s : Env} {h : H} : evOp (.lenSlice x) s h = (lenV (aeval s x)).map fun v => (v, h) := by
  show (match aeval s x with
    | .slice none 0 0 => some (Value.int .i64 0, h)
    | .slice (some _) n _ => some (.int .i64 n, h)
    | _ => none) = _
  unfold lenV
  split <;> rfl

theorem fn_id {α : Sort _} {β : Sort _} (f : α → β) {a b : α} (h : a = b) : f a = f b := by rw [h]

end Go.Ev
