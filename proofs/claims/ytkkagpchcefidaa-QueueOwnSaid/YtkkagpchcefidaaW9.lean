/- Several texts in one: Ev18. -/
import Derived.Conc.MuLone
import Derived.Test.YtkkagpchcefidaaW8

/- Ev18: sync.Mutex in the evaluator: Lock of a free one, Unlock of a held one (the library's own text, by the kit's contracts for one goroutine). -/
set_option linter.unusedSimpArgs false
set_option linter.unusedVariables false
namespace Go.Ev
open Go.Conc.Locks

/-! ### deferred calls in proofs -/
def evP (cf : CF) (ops : List AOper) (s : Env) (h : H) (kn : K) (ds : Ds) : Res := evOps cf ops s h fun s' h' => kn s' h' ds
def nextP (x : Option (Value × H)) (cf : CF) (d : Option Nat) (os : List AOper) (s : Env) (kn : K) (ds : Ds) : Res := match x with
  | some (v, h') => evP cf os (setD s d v) h' kn ds
  | none => none
def deferK (f : Operand) (args : List Operand) (keep : List Nat) (kn : K) : K := fun s h ds => match evDefer s f args with
  | some d => kn (s.keep keep) h (d :: ds)
  | none => none
section
variable {cf : CF} {F : Nat} {s : Env} {h : H} {kn kr : K} {ke : Nat → K} {ds : Ds} {keep : List Nat} {d : Option Nat} {os pre : List AOper} {v : Value} {f : Operand} {args : List Operand}
@[simp] theorem evC_defer : evC F cf (.defer pre f args keep) kn ke kr s h ds = evP cf pre s h (deferK f args keep kn) ds := nr rfl
@[simp] theorem evP_nil : evP cf [] s h kn ds = kn s h ds := nr rfl
@[simp] theorem evP_op {o : AOp} : evP cf (⟨d, none, .op o⟩ :: os) s h kn ds = nextP (evOp o s h) cf d os s kn ds := by
  simp only [evP, evOps, evOper, evAct, nextP]
  cases evOp o s h <;> rfl
@[simp] theorem nextP_some {h' : H} : nextP (some (v, h')) cf d os s kn ds = evP cf os (setD s d v) h' kn ds := nr rfl
@[simp] theorem deferK_fn {g : FuncId} : deferK (.func g) args keep kn s h ds = kn (s.keep keep) h (⟨g, args.map (aeval s)⟩ :: ds) := by
  simp [deferK, evDefer, aeval]
end

def flipX (a b : Int) : List Value → H → Res
  | [.pointer (some ⟨bl, o, none⟩)], h => match rd h bl o 1 with
    | some [.int .i32 n] => if n = a then (wr h bl o [.int .i32 b]).map fun h' => (.tuple ⟨[]⟩, h') else none
    | _ => none
  | _, _ => none

theorem flipX_inv {a b : Int} {args : List Value} {h h' : H} {r : Value} (e : flipX a b args h = some (r, h')) : ∃ bl o, args = [.pointer (some ⟨bl, o, none⟩)] ∧ rd h bl o 1 = some [.int .i32 a] ∧ wr h bl o [.int .i32 b] = some h' ∧ r = .tuple ⟨[]⟩ := by
  unfold flipX at e
  split at e
  · rename_i bl o
    split at e
    · rename_i n hr
      split at e
      · rename_i hn
        subst hn
        obtain ⟨q, hq, hf⟩ := Option.map_eq_some_iff.1 e
        cases hf
        exact ⟨bl, o, rfl, hr, hq, rfl⟩
      · cases e
    · cases e
  · cases e

variable {P : Program} {L : MuLink}

theorem flip_core {a b : Int} {ρ : Ren} {h h' : H} {w : World} {args args' : List Value} {r : Value} (rr : Rel ρ h w) (e : flipX a b args h = some (r, h')) (hv : VRs ρ args args') :
    ∃ ad : Addr, args' = [.pointer (some ad)] ∧ w.cell? ad = some (.int .i32 a) ∧ w.frozen? ad = false ∧ r = .tuple ⟨[]⟩ ∧ Rel ρ h' (w.setCell ad (.int .i32 b)) ∧ Ext ρ h w ρ h' (w.setCell ad (.int .i32 b)) := by
  obtain ⟨bl, o, rfl, h1, h2, rfl⟩ := flipX_inv e
  cases hv with
  | cons hp ht =>
    cases ht
    cases hp with
    | ptr hb =>
      rename_i i
      obtain ⟨_, l', q1, q2⟩ := rd_rel rr hb h1
      cases q1 with
      | cons q3 q4 =>
        cases q4
        cases q3
        have hc := q2 0 _ rfl
        obtain ⟨_, g2, _, g4, g5⟩ := wr_rel rr hb h2 (vs' := [.int .i32 b]) (.cons (.int _ _) .nil)
        have hz := g2 0 (by simp)
        exact ⟨⟨i.blk, o + i.sh, none⟩, rfl, hc, hz, rfl, g4, g5⟩

theorem lock_ok (M : MuLib P L) : CallOk P (fun g args h => if g = L.lock then flipX 0 1 args h else none) := by
  intro f args h r h' e
  simp only at e
  split at e
  · rename_i hf
    subst hf
    refine ⟨by unfold callable; rw [M.f_lock]; rfl, ?_⟩
    intro ρ w args' rr hv
    obtain ⟨ad, rfl, hc, hz, rfl, g1, g2⟩ := flip_core rr e hv
    refine (MuLone.lock_free M ad w hc hz).mono ?_
    rintro e w' ⟨rfl, rfl⟩
    exact ⟨_, ρ, rfl, .tuple .nil, g1, g2⟩
  · cases e

theorem unlock_ok (M : MuLib P L) : CallOk P (fun g args h => if g = L.unlock then flipX 1 0 args h else none) := by
  intro f args h r h' e
  simp only at e
  split at e
  · rename_i hf
    subst hf
    refine ⟨by unfold callable; rw [M.f_unlock]; rfl, ?_⟩
    intro ρ w args' rr hv
    obtain ⟨ad, rfl, hc, hz, rfl, g1, g2⟩ := flip_core rr e hv
    refine (MuLone.unlock_held M ad w hc hz).mono ?_
    rintro e w' ⟨rfl, rfl⟩
    exact ⟨_, ρ, rfl, .tuple .nil, g1, g2⟩
  · cases e

theorem unlock_dok (M : MuLib P L) : CallDOk P (fun g args h => if g = L.unlock then flipX 1 0 args h else none) := by
  intro f args h r h' e
  simp only at e
  split at e
  · rename_i hf
    subst hf
    refine ⟨by unfold callable; rw [M.f_unlock]; rfl, ?_⟩
    intro ρ w args' u rr hv
    obtain ⟨ad, rfl, hc, hz, rfl, g1, g2⟩ := flip_core rr e hv
    refine (MuLone.unlock_deferred M ad u w hc hz).mono ?_
    rintro e u' w' ⟨rfl, rfl, rfl⟩
    exact ⟨rfl, _, ρ, rfl, .tuple .nil, g1, g2⟩
  · cases e

end Go.Ev
