/- Texts of the proofs over heraldlaw18, put together by a program (merge18c.py): Cn1. -/
import Derived.Test.YtnoghchcboiojaaGreatDoorC8
import Derived.SevenTiedAt
import Derived.Lay
import Derived.Handed
set_option linter.unusedVariables false
set_option linter.unusedSimpArgs false
namespace Go.Ev
open Go Go.Conc Go.ConcM
section
variable {H : Type} {enc : TypeId × Value → H}
theorem witness_calm {C : Checked} {os : Os} {f : FuncId} {fn : Func} {s : ChangeSpec} {conds : List PathCond} {apart : Bool} {X : World → Array Value → Prop} (w0 : World) (args : Array Value) (fuel : Nat) (hos : w0.os = os)
  (hv : (w0.forCall (fun _ _ => 0) ⟨#[],args,[]⟩).Shaped C.prog)
  (hok : Input.okWideB C.prog (w0.forCall (fun _ _ => 0) ⟨#[],args,[]⟩) f ⟨#[],args,[]⟩ = true)
  (hpre : s.preB enc C.prog fn conds apart (w0.forCall (fun _ _ => 0) ⟨#[],args,[]⟩).memory args fuel = true)
  (hsz : s.sizedB enc C.prog fn apart (w0.forCall (fun _ _ => 0) ⟨#[],args,[]⟩).memory args fuel = true)
  (hx : X (w0.forCall (fun _ _ => 0) ⟨#[],args,[]⟩).memory args) :
  ∃ (w : World) (tape : Tape) (i : Input),w.os = os ∧ (w.forCall tape i).Shaped C.prog ∧ i.vars = [] ∧ Input.okWide C.prog (w.forCall tape i) .any w.heap.size f i ∧
   ((s.pre enc C.prog fn conds apart (w.forCall tape i).memory i.args ∧ X (w.forCall tape i).memory i.args) ∧ sizedMet enc C.prog fn (OpenSpec.ofChange s) apart (w.forCall tape i).memory i.args) ∧ ({ calm := true } : Assume).holds C.prog (lone (Frame.enter C.prog f i.args .normal) [] (w.forCall tape i)) :=
 ⟨w0,fun _ _ => 0,⟨#[],args,[]⟩,hos,hv,(Input.okWide_of_okWideB (base := 0) hok).1,(Input.okWide_of_okWideB hok).2,⟨⟨ChangeSpec.pre_of_preB hpre,hx⟩,sizedMet_of_sizedB hsz⟩,by
  simp only [Assume.holds]
  exact ⟨by simp,fun _ _ _ _ => rfl,by simp,by simp,by simp⟩⟩
end
theorem card_goes {p : Pinned} {s : OpenSpec} {c : OpenClaim} (kinds : List LaidKind) (tests : Bool) (har : Bool × String) (lk : Bool)
  (hc : c.holds p s) (hw : c.wfByText s = true)
  (htie : c.laidByTextAt .later p kinds tests)
  (hst : c.start = .entering) (hnb : c.noBlocks = false ∧ c.again = false) (hm : p.checked.prog.mainIs = some (har.1,har.2.toList)) (hn : (!har.1 && har.2.isEmpty && !lk) = false)
  (hl : ∀ f fn,p.checked.prog.funcNamed c.func = some f → p.checked.prog.funcs[f]? = some fn → lk = p.checked.prog.looks [] ∧ ∀ (j : Nat) t,fn.params[j]? = some t → p.checked.prog.wantsStandIn t = false)
  (hg : true = c.goesBy p.checked.prog) :
  Claim7.holds p (.plain s) { stood := { row := c,standIns := [],harness := har,looks := lk },kinds := [],alts := [],goes := true,laidByText := true,laidKinds := kinds,laidTests := tests,laidLooks := .later } := by
 have h6 : Claim7.isSixth { stood := { row := c,standIns := [],harness := har,looks := lk },kinds := [] } = false := by simpa [Claim7.isSixth] using hn
 refine ⟨?_,fun D hD => (by cases hD),htie,(fun h => by cases h),hg⟩
 exact Claim7.tied_new_at .later kinds tests (Claim7.new_of_sixth hc har lk hst hnb hm h6 hl) hw
end Go.Ev
