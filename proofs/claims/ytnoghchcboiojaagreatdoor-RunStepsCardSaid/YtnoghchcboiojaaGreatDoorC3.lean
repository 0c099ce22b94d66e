/- Texts of the proofs over heraldlaw18, put together by a program (merge18c.py): Cn3. -/
import Derived.JoinedOf
set_option linter.unusedVariables false
set_option linter.unusedSimpArgs false
namespace Go.Ev
open Go
abbrev Row5 := List Nat × Option String × Bool × List Nat × Option String
def rowOf (P : Program) (g : Nat) : Row5 :=
 ((P.funcs[g]?).elim [] P.leadsTo, ((P.funcs[g]?).bind fun fn => if fn.ours || fn.body.isNone || fn.name == "runtime.NumGoroutine" then some fn.name else none),
  ((P.funcs[g]?).any fun fn => match fn.body with | some c => c.unfollowed | none => entryCalls fn),
  ((P.funcs[g]?).bind (·.body)).elim [] Code.globalsNamed,(P.funcs[g]?).bind fun fn => if fn.body.isNone then entryReads.lookup fn.name else none)
def row0 : Row5 := ([],none,false,[],none)
def lookT (T : List (List Row5)) (g : Nat) : Row5 := match T[g / 50]? with
 | some l => match l[g % 50]? with
  | some x => x
  | none => row0
 | none => row0
def TabOk (P : Program) (T : List (List Row5)) : Prop := ∀ g,rowOf P g = lookT T g
theorem rowOf_none {P : Program} {g : Nat} (h : P.funcs[g]? = none) : rowOf P g = row0 := by
 simp [rowOf,h,row0]
theorem tabOk_of {P : Program} {T : List (List Row5)} {n : Nat} (hn : P.funcs.size = n) (hT : ∀ k l,T[k]? = some l → (List.range' (50 * k) l.length).map (rowOf P) = l) (hl : ∀ k l,T[k]? = some l → l.length = min 50 (n - 50 * k)) (hlen : n ≤ 50 * T.length) : TabOk P T := by
 intro g
 unfold lookT
 by_cases hg : g < n
 ·have hk : g / 50 < T.length := by omega
  rw [List.getElem?_eq_getElem hk]
  have h1 := hT (g / 50) _ (List.getElem?_eq_getElem hk)
  have h2 := hl (g / 50) _ (List.getElem?_eq_getElem hk)
  generalize T[g / 50] = l at *
  dsimp only
  have hi : g % 50 < l.length := by rw [h2];omega
  have h3 := congrArg (·[g % 50]?) h1
  simp only [List.getElem?_map,List.getElem?_range' hi] at h3
  rw [← h3,Nat.one_mul]
  simp only [Option.map_some]
  rw [show 50 * (g / 50) + g % 50 = g by omega]
 ·rw [rowOf_none (Array.getElem?_eq_none (by omega))]
  cases hk : T[g / 50]? with
  | none => rfl
  | some l =>
   dsimp only
   have h2 := hl (g / 50) l hk
   rw [List.getElem?_eq_none (by rw [h2];omega)]
def goT (L : Nat → List Nat) : Nat → List Nat → Nat → List Nat → List Nat
 | 0,_,_,seen => seen.reverse
 | _,[],_,seen => seen.reverse
 | n + 1,f :: todo,m,seen => if m.testBit f then goT L n todo m seen else goT L n (L f ++ todo) (m ||| 1 <<< f) (f :: seen)
theorem goT_is {P : Program} {L : Nat → List Nat} (hL : ∀ g,(P.funcs[g]?).elim [] P.leadsTo = L g) : ∀ (n : Nat) (todo : List Nat) (m : Nat) (seen : List Nat),(∀ f,m.testBit f = seen.contains f) → P.closureVia n todo seen = goT L n todo m seen
 | 0,todo,m,seen,_ => by cases todo <;> simp [Program.closureVia,goT]
 | n + 1,[],m,seen,_ => by simp [Program.closureVia,goT]
 | n + 1,f :: todo,m,seen,h => by
  rw [Program.closureVia,goT,h f]
  split
  ·exact goT_is hL n todo m seen h
  ·rw [hL f]
   refine goT_is hL n _ _ _ fun q => ?_
   rw [Nat.testBit_or,h q,Nat.one_shiftLeft,Nat.testBit_two_pow,List.contains_cons,Bool.or_comm]
   congr 1
   by_cases e : f = q
   ·subst e;simp
   ·have : ¬ q = f := fun x => e x.symm
    simp [e,this]
def sumT (T : List (List Row5)) : Nat := ((T.map fun l => (l.map fun x => x.1.length + 1).sum)).sum
theorem sum_flat {A : Type} (f : A → Nat) : ∀ T : List (List A),(T.flatten.map f).sum = (T.map fun l => (l.map f).sum).sum
 | [] => rfl
 | l :: T => by rw [List.flatten_cons,List.map_append,List.sum_append,sum_flat f T];rfl
theorem sum_is {P : Program} {T : List (List Row5)} {n : Nat} (hn : P.funcs.size = n) (hT : ∀ k l,T[k]? = some l → (List.range' (50 * k) l.length).map (rowOf P) = l) (hl : ∀ k l,T[k]? = some l → l.length = min 50 (n - 50 * k)) (hlen : n ≤ 50 * T.length) :
  (P.funcs.toList.map fun g => (P.leadsTo g).length + 1).sum = sumT T := by
 have hf : (T.flatten.map fun x => x.1.length + 1).sum = sumT T := sum_flat _ T
 rw [← hf]
 congr 1
 have hok := tabOk_of hn hT hl hlen
 have hflat : T.flatten = (List.range n).map (rowOf P) := by
  have : ∀ (S : List (List Row5)) (k0 : Nat),(∀ k l,S[k]? = some l → (List.range' (50 * (k0 + k)) l.length).map (rowOf P) = l) → (∀ k l,S[k]? = some l → l.length = min 50 (n - 50 * (k0 + k))) → n ≤ 50 * (k0 + S.length) → S.flatten = (List.range' (50 * k0) (n - 50 * k0)).map (rowOf P) := by
   intro S
   induction S with
   | nil => intro k0 _ _ h;simp at h;rw [show n - 50 * k0 = 0 by omega];rfl
   | cons l S ih =>
    intro k0 h1 h2 h3
    have a1 := h1 0 l rfl
    have a2 := h2 0 l rfl
    rw [Nat.add_zero] at a1 a2
    have a3 := ih (k0 + 1) (fun k l' h => by have := h1 (k + 1) l' h;rwa [show k0 + (k + 1) = k0 + 1 + k by omega] at this) (fun k l' h => by have := h2 (k + 1) l' h;rwa [show k0 + (k + 1) = k0 + 1 + k by omega] at this) (by simp at h3;omega)
    rw [List.flatten_cons,a3]
    refine Eq.trans (b := (List.range' (50 * k0) l.length).map (rowOf P) ++ (List.range' (50 * (k0 + 1)) (n - 50 * (k0 + 1))).map (rowOf P)) (by rw [a1]) ?_
    rw [← List.map_append]
    congr 1
    by_cases hle : 50 ≤ n - 50 * k0
    ·rw [show l.length = 50 by omega,show n - 50 * k0 = 50 + (n - 50 * (k0 + 1)) by omega,show 50 * (k0 + 1) = 50 * k0 + 50 by omega]
     exact List.range'_append_1 ..
    ·rw [show n - 50 * (k0 + 1) = 0 by omega,show l.length = n - 50 * k0 by omega]
     simp
  have := this T 0 (by simpa using hT) (by simpa using hl) (by simpa using hlen)
  rw [this,List.range_eq_range']
  simp
 rw [hflat,List.map_map]
 apply List.ext_getElem?
 intro i
 simp only [List.getElem?_map,Array.getElem?_toList]
 by_cases hi : i < n
 ·rw [List.getElem?_range hi,Array.getElem?_eq_getElem (by omega)]
  simp only [Option.map_some,Function.comp]
  congr 2
  simp [rowOf,Array.getElem?_eq_getElem (show i < P.funcs.size by omega)]
 ·rw [Array.getElem?_eq_none (by omega),List.getElem?_eq_none (by simp;omega)]
  rfl
def reachT (T : List (List Row5)) (f : Nat) : List Nat := goT (fun g => (lookT T g).1) (1 + sumT T) [f] 0 []
section
variable {P : Program} {T : List (List Row5)} {f : Nat}
theorem closure_is (hok : TabOk P T) (hs : (P.funcs.toList.map fun g => (P.leadsTo g).length + 1).sum = sumT T) (f : Nat) : P.closure f = reachT T f := by
 unfold Program.closure reachT
 rw [hs]
 exact goT_is (fun g => congrArg (·.1) (hok g)) _ _ _ _ fun q => by simp
theorem inPlace_is (hok : TabOk P T) (hc : P.closure f = reachT T f) : P.inPlace f = (reachT T f).filterMap fun g => (lookT T g).2.1 := by
 unfold Program.inPlace
 rw [hc]
 congr 1
 funext g
 rw [← hok g]
 rfl
theorem unfollowed_is (hok : TabOk P T) (hc : P.closure f = reachT T f) : P.unfollowed f = (reachT T f).any fun g => (lookT T g).2.2.1 := by
 unfold Program.unfollowed
 rw [hc]
 congr 1
 funext g
 rw [← hok g]
 rfl
theorem varsNamed_is (hok : TabOk P T) (hc : P.closure f = reachT T f) : P.varsNamed f = (((reachT T f).flatMap fun g => (lookT T g).2.2.2.1).eraseDups.filterMap (fun g => (P.globals[g]?).map (·.name)) ++ (reachT T f).filterMap fun g => (lookT T g).2.2.2.2).eraseDups := by
 unfold Program.varsNamed
 rw [hc]
 have h1 : (fun g => ((P.funcs[g]?).bind (·.body)).elim [] Code.globalsNamed) = fun g => (lookT T g).2.2.2.1 := by
  funext g;rw [← hok g];rfl
 have h2 : (fun g => (P.funcs[g]?).bind fun fn => if fn.body.isNone then entryReads.lookup fn.name else none) = fun g => (lookT T g).2.2.2.2 := by
  funext g;rw [← hok g];rfl
 rw [← h1,← h2]
theorem recurses_is (h : P.unfollowed f = true) : P.recurses f = true := by
 unfold Program.recurses
 rw [h];rfl
end
end Go.Ev
