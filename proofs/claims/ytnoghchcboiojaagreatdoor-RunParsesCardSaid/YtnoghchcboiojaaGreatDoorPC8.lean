/- Texts of the proofs over heraldlaw18, put together by a program (merge18c.py): Cn0. -/
import Derived.Conc.HoldsTime
import Derived.Handed
set_option linter.unusedVariables false
set_option linter.unusedSimpArgs false
namespace Go.Ev
open Go Go.Conc Go.ConcM
theorem leaving_of_lone {P : Program} {n : Nat} {m : Machine} {fr : Frame} {w w' : World} (h : runN P n m = .next (lone fr [] w)) : leavingAtReturn P (lone fr [] w) w' (runNT P (n + 1) m #[]).2 := by
 obtain ⟨_,h1,h2⟩ := alone_of_lone (w' := w') h
 refine ⟨h1,⟨fun g hg => ?_,rfl⟩,h2⟩
 simp [lone] at hg
theorem returnsInLeaving_of_calls {a : Assume} {C : Checked} {os : Os} {f : FuncId} {r : Reach} {Pre : World → Array Value → Prop} {Post : World → Array Value → Value → World → Prop}
  (own : ownKnob C.prog.godebug = none) (started : os.Started) (noInit : C.prog.inits.idxOf? f = none)
  (witness : ∃ (w : World) (tape : Tape) (i : Input),w.os = os ∧ (w.forCall tape i).Shaped C.prog ∧ i.vars = [] ∧ Input.okWide C.prog (w.forCall tape i) r w.heap.size f i ∧ Pre (w.forCall tape i).memory i.args ∧
    a.holds C.prog (lone (Frame.enter C.prog f i.args .normal) [] (w.forCall tape i)))
  (contract : ∀ (w : World) (tape : Tape) (i : Input),w.os = os → (w.forCall tape i).ShapedOpen C.prog → i.vars = [] → Input.okWide C.prog (w.forCall tape i) r w.heap.size f i → Pre (w.forCall tape i).memory i.args →
    a.holds C.prog (lone (Frame.enter C.prog f i.args .normal) [] (w.forCall tape i)) →
    Calls C.prog f i.args (w.forCall tape i) fun
     | .returned v,w' => Post (w.forCall tape i).blind i.args v w'.blind
     | _,_ => False) :
  ReturnsInLeavingWide a C os f r Pre Post := fun enter => by
 obtain ⟨w0,t0,i0,a1,a2,a3,a4,a5,a6⟩ := witness
 refine ⟨enter,own,started,⟨w0,t0,i0,a1,a2,a3,a4,a5,a6,trivial⟩,fun w tape i h => ?_⟩
 obtain ⟨n,v,w',fr,hn,hend,hp⟩ := (contract w tape i h.1 h.2.1 h.2.2.1 h.2.2.2.1 h.2.2.2.2.1 h.2.2.2.2.2.1).done_lone noInit
 exact ⟨n + 1,v,w',hend,(clean_of_lone hn).2,roomy_placeholder ..,hp,⟨n,_,hn,step_of_runs hn hend,leaving_of_lone hn⟩,fun _ _ _ => trivial⟩
section
variable {H : Type} {enc : TypeId × Value → H}
theorem returnsInLeaving_of_change_and {a : Assume} {C : Checked} {os : Os} {f : FuncId} {fn : Func} {s : ChangeSpec} {F : Stop.Interp} {conds : List PathCond} {apart fresh handsOn : Bool} {X : World → Array Value → Prop}
  (hX : ∀ (w w' : World) (args : Array Value),w.heap = w'.heap → X w args → X w' args)
  (own : ownKnob C.prog.godebug = none) (started : os.Started) (noInit : C.prog.inits.idxOf? f = none) (hfn : C.prog.funcs[f]? = some fn)
  (witness : ∃ (w : World) (tape : Tape) (i : Input),w.os = os ∧ (w.forCall tape i).Shaped C.prog ∧ i.vars = [] ∧ Input.okWide C.prog (w.forCall tape i) .any w.heap.size f i ∧
    ((s.pre enc C.prog fn conds apart (w.forCall tape i).memory i.args ∧ X (w.forCall tape i).memory i.args) ∧ sizedMet enc C.prog fn (OpenSpec.ofChange s) apart (w.forCall tape i).memory i.args) ∧ a.holds C.prog (lone (Frame.enter C.prog f i.args .normal) [] (w.forCall tape i)))
  (contract : ∀ (W : World) (base : Nat) (args : Array Value) (ds gs : List (DataW H)) (before : List MemPlace),
    (∀ (j : Nat) t v,fn.params[j]? = some t → args[j]? = some v → Value.okWide C.prog W .any base t v) →
    DataW.Whole enc C.prog fn.params.toList s.vars apart W args.toList ds gs before →
    conds.all (PathCond.test C.prog ⟨fn.params.toList,ds,s.plain.varTypes C.prog,gs⟩) = true →
    (DataW.weightsEach C.prog (fn.params.toList ++ s.plain.varTypes C.prog) (ds ++ gs)).all (· ≤ reachBytes) = true → X W args → W.ShapedOpen C.prog →
    a.holds C.prog (lone (Frame.enter C.prog f args .normal) [] W) →
    Calls C.prog f args W fun e W' => ∃ v,e = .returned v ∧ s.post enc C.prog fn apart fresh handsOn false W args v W' ∧ W'.os = W.os) :
  ReturnsInLeavingWide a C os f .any (fun w args => (s.pre enc C.prog fn conds apart w args ∧ X w args) ∧ sizedMet enc C.prog fn (OpenSpec.ofChange s) apart w args)
   ((OpenSpec.ofChange s).postWith enc C.prog fn F (outsideKept [.timePasses]) apart fresh handsOn) := by
 refine returnsInLeaving_of_calls own started noInit witness ?_
 intro w tape i _ hsh _ hok hpre hholds
 obtain ⟨_,_,_,fn',hfn',_,_,_,_,hval⟩ := hok
 have e : fn' = fn := Option.some.inj (hfn'.symm.trans hfn)
 subst e
 obtain ⟨⟨⟨ds,gs,before,hw,hc⟩,hx⟩,hz⟩ := hpre
 have hw' := DataW.Whole.of_heap (w' := w.forCall tape i) (by rfl) hw
 refine (contract (w.forCall tape i) w.heap.size i.args ds gs before hval hw' hc (hz.weights hw) (hX _ _ _ (by rfl) hx) hsh hholds).mono fun e W' ⟨v,he,hp,ho⟩ => ?_
 subst he
 refine postWith_blind (postWith_of_post ?_ ?_)
 ·rw [← ho];exact hp
 ·rw [ho];exact ⟨0,by rfl⟩
end
end Go.Ev
