/- Texts of the proofs over heraldlaw20, put together by a program (merge20.py): Oa0. -/
import Derived.Lay
import Derived.Handed
import Derived.ChangeArms
import Derived.MakeChecks
set_option linter.unusedVariables false
set_option linter.unusedSimpArgs false
namespace Go.Ev
open Go
def VarIs (P : Program) (w : World) (n : String) (d : DataW Unit) : Prop :=
 ∃ g t cs fuel p,P.globalNamed n = some g ∧ (P.globals[g]?).map (·.type) = some t ∧ w.var? P n = some cs ∧ DataW.trod (fun _ => ()) P w 0 (fun _ => true) false fuel t cs.toList = some (d,p)
theorem laidVars_is {P : Program} {w : World} : ∀ {l : List (String × DataW Unit)} {ps : List MemPlace},DataW.LaidVars P w l ps → ∀ n d,(n,d) ∈ l → VarIs P w n d
 | [],_,_,_,_,hm => by cases hm
 | (n',d') :: r,ps,h,n,d,hm => by
  obtain ⟨g,t,cs,fuel,p,q,h1,h2,h3,h4,h5,_⟩ := h
  rcases List.mem_cons.1 hm with e | e
  ·cases e
   exact ⟨g,t,cs,fuel,p,h1,h2,h3,h4⟩
  ·exact laidVars_is h5 n d e
theorem laid_is {P : Program} {w : World} {l : List (String × DataW Unit)} (hn : (l.all fun x => x.2.handleName?.isNone) = true) (h : laidMetH P l w) {n : String} {d : DataW Unit} (hm : (n,d) ∈ l) : VarIs P w n d := by
 rw [MakeChecks.laidMetH_plain _ _ _ hn] at h
 obtain ⟨_,hv,_⟩ := h
 exact laidVars_is hv n d hm
theorem mapM_at' {α β : Type} {f : α → Option β} : ∀ {l : List α} {r : List β},l.mapM f = some r → ∀ (i : Nat) (a : α),l[i]? = some a → ∃ b,r[i]? = some b ∧ f a = some b
 | [],_,_,i,a,ha => by simp at ha
 | x :: l,r,h,i,a,ha => by
  simp only [List.mapM_cons,Option.bind_eq_bind,Option.bind_eq_some_iff,Option.pure_def,Option.some.injEq] at h
  obtain ⟨b,hb,r',hr',rfl⟩ := h
  cases i with
  | zero =>
   simp only [List.getElem?_cons_zero,Option.some.injEq] at ha
   subst ha
   exact ⟨b,rfl,hb⟩
  | succ i => exact mapM_at' hr' i a (by simpa using ha)
theorem mapM_length' {α β : Type} {f : α → Option β} : ∀ {l : List α} {r : List β},l.mapM f = some r → r.length = l.length
 | [],r,h => by cases h;rfl
 | x :: l,r,h => by
  simp only [List.mapM_cons,Option.bind_eq_bind,Option.bind_eq_some_iff,Option.pure_def,Option.some.injEq] at h
  obtain ⟨b,hb,r',hr',rfl⟩ := h
  simp [mapM_length' hr']
theorem cells_of_lits {H : Type} {enc : TypeId × Value → H} {P : Program} {w : World} {base : Nat} {sp : Nat → Bool} {held : Bool} {fuel : Nat} {t e : TypeId} {n : Nat} {cs : List Value} {A : Type} {zs : List A} {lit : A → DataW H} {val : A → Value} {p : List MemPlace}
  (hone : ∀ fuel z c x,DataW.trod enc P w base sp held fuel e c = some x → x.1 = lit z → c = [val z])
  (ht : P.underlying t = some (.array n e)) (hce : P.cellsOf e = 1) (hct : P.cellsOf t = n)
  (h : DataW.trod enc P w base sp held fuel t cs = some (.agg (zs.map lit),p)) : cs = zs.map val := by
 cases fuel with
 | zero => simp [DataW.trod] at h
 | succ fuel =>
  simp only [DataW.trod,ht,hce,hct,Nat.mul_one] at h
  split at h
  ·rename_i hl
   obtain ⟨xs,hm,hx⟩ := Option.map_eq_some_iff.1 h
   have hxs : xs.map (·.1) = zs.map lit := by
    have := congrArg Prod.fst hx
    simpa using this
   have hxl : xs.length = n := by simpa using mapM_length' hm
   have hzl : zs.length = n := by
    have := congrArg List.length hxs
    simp at this
    omega
   apply List.ext_getElem?
   intro i
   by_cases hi : i < n
   ·obtain ⟨b,hb,hf⟩ := mapM_at' hm i i (by simp [hi])
    obtain ⟨z,hz⟩ : ∃ z,zs[i]? = some z := ⟨_,List.getElem?_eq_getElem (by omega)⟩
    have h2 : (xs.map (·.1))[i]? = some b.1 := by simp [hb]
    rw [hxs,List.getElem?_map,hz] at h2
    have hc := hone _ z _ _ hf (Option.some.inj h2).symm
    have h1 : cs[i]? = some (val z) := by
     have := congrArg (·[0]?) hc
     simpa [List.getElem?_take,List.getElem?_drop] using this
    simp [h1,hz]
   ·rw [List.getElem?_eq_none (by omega),List.getElem?_eq_none (by simp;omega)]
  ·cases h
section
variable {P : Program} {w : World} {n : String} {g m : Nat} {t e : TypeId}
theorem var_block {cs : Array Value} (hg : P.globalNamed n = some g) (h : w.var? P n = some cs) : ∃ t fr,w.heap[g]? = some (.cells cs t fr) := by
 simp only [World.var?,hg,Option.bind_some] at h
 split at h
 ·rename_i h1;cases h;exact ⟨_,_,h1⟩
 ·cases h
theorem ints_of {k : IntKind} {zs : List Int} (hg : P.globalNamed n = some g) (hty : (P.globals[g]?).map (·.type) = some t) (ht : P.underlying t = some (.array m e)) (he : P.underlying e = some (.int k)) (hce : P.cellsOf e = 1) (hct : P.cellsOf t = m)
  (h : VarIs P w n (.agg (zs.map fun z => .lit (.int k z)))) : ∃ t fr,w.heap[g]? = some (.cells (zs.map fun z => Value.int k z).toArray t fr) := by
 obtain ⟨g',t',cs,fuel,p,hg',ht',hvar,hd⟩ := h
 obtain rfl := Option.some.inj (hg.symm.trans hg')
 obtain rfl := Option.some.inj (hty.symm.trans ht')
 have := cells_of_lits (val := fun z => Value.int k z) (lit := fun z => DataW.lit (.int k z)) (fun fuel z c x hf hx => by
  obtain ⟨s,rfl,rfl,_⟩ := DataW.trod_int he hf
  simp only [DataW.lit.injEq,Lit.int.injEq,true_and] at hx
  subst hx
  rfl) ht hce hct hd
 rw [← this]
 simpa using var_block hg hvar
theorem int_of_shape {k : IntKind} {zero : Array Value} (h : w.ShapedOpen P) (hg : g < P.globals.size)
  (h0 : ((begin P (fun _ _ => 0) default).world.heap[g]?).bind Obj.row? = some (zero,t)) (hz : zero.size = 1)
  (hb : P.buildable t = true) (hc : P.cellTypes P.depth t = some [t]) (hu : P.underlying t = some (.int k)) : ∃ z t fr,w.heap[g]? = some (.cells #[.int k z] t fr) := by
 obtain ⟨cs,hh,hs,hr⟩ := h.1 g zero t hg h0
 obtain ⟨ts,hts,_,hall⟩ := hr hb
 rw [hc] at hts
 cases hts
 have h1 : cs.size = 1 := by omega
 obtain ⟨v,rfl⟩ : ∃ v,cs = #[v] := Array.size_eq_one_iff.1 h1
 obtain ⟨u,hu',hok⟩ := hall 0 v (by simp)
 have : u = t := by simpa using hu'.symm
 subst this
 unfold Cell.ok at hok
 rw [hu] at hok
 cases v <;> simp at hok
 obtain ⟨rfl,_⟩ := hok
 exact ⟨_,_,_,hh⟩
end
end Go.Ev
