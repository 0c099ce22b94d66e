/- Texts of the proofs over heraldlaw18, put together by a program (merge18c.py): Sx5 SaRunSteps. -/
import Derived.Test.YtnoghchcboiojaaGreatDoorE1
import Derived.Test.YtnoghchcboiojaaGreatDoorD12
import Derived.ChangeMaps5
import Derived.WalkKit
import Derived.Test.YtnoghchcboiojaaGreatDoorS0
set_option linter.unusedVariables false
set_option linter.unusedSimpArgs false
section
set_option maxRecDepth 100000
namespace Go.Proofs.YtnoghchcboiojaaGreatDoor
open Go.Ev Go.ChangeShapes Go.WideShapes
open Go.Rn (Bs Ru St)
theorem ru_ty : tyOk Tryz.prog ruTy 23 = true := by kernel_rfl
theorem ru_tb : tyB Tryz.prog ruTy 23 = true := by kernel_rfl
theorem sts_ty : tyOk Tryz.prog (.slice stTy) 24 = true := by kernel_rfl
theorem sts_tb : tyB Tryz.prog (.slice stTy) 24 = true := by kernel_rfl
theorem weights_at {HT : Type} {P : Program} {ts : List TypeId} {ds : List (DataW HT)} (h : (DataW.weightsEach P ts ds).all (· ≤ reachBytes) = true) (j : Nat) {t : TypeId} {d : DataW HT} (ht : ts[j]? = some t) (hd : ds[j]? = some d) : ∀ n ∈ DataW.weights P t d,n ≤ reachBytes := fun n hn => by
 simpa using List.all_eq_true.1 h n (DataW.weights_mem_each ht hd n hn)
section
variable {HT : Type} {enc : TypeId × Value → HT} {W : World} {base : Nat} {held : Bool}
theorem open_steps {base' : Nat} {v : Value} {d : DataW HT} {p : List MemPlace} (hv : Value.okWide Tryz.prog W .any base' 24 v) (h : DataW.Trod enc Tryz.prog W base (fun _ => true) held 24 v d p) (hw : ∀ n ∈ DataW.weights Tryz.prog 24 d,n ≤ reachBytes) :
  ∃ l : List St,InS (absH W) (absA W.heap.size v) l := by
 have hc := open_argZ sts_ty sts_tb h hw
 have hna : ∀ cs,v ≠ .agg cs := by
  intro cs e
  subst e
  unfold Value.okWide at hv
  rw [Tryz.underlying24] at hv
  simp [Cell.okWide,Cell.ok,Tryz.underlying24] at hv
 have hcs : v.cells.toList = [v] := by
  cases v <;> first | rfl | exact absurd rfl (hna _)
 have habs : absA W.heap.size v = absV W.heap.size v := by
  cases v <;> first | rfl | exact absurd rfl (hna _)
 rw [hcs] at hc
 rw [habs]
 exact open_stepsZ hc
theorem open_rules {base' : Nat} {v : Value} {d : DataW HT} {p : List MemPlace} (hv : Value.okWide Tryz.prog W .any base' 23 v) (h : DataW.Trod enc Tryz.prog W base (fun _ => true) held 23 v d p) (hw : ∀ n ∈ DataW.weights Tryz.prog 23 d,n ≤ reachBytes) :
  ∃ r : Ru,absA W.heap.size v = .agg ⟨ruC r⟩ ∧ RuN r := by
 have hc := open_argZ ru_ty ru_tb h hw
 unfold Value.okWide at hv
 rw [Tryz.underlying23] at hv
 obtain ⟨cs,rfl,_⟩ := hv
 obtain ⟨r,h1,h2⟩ := open_ru hc
 refine ⟨r,?_,h2⟩
 cases cs with
 | mk l =>
  show Value.agg ⟨l.map (absV W.heap.size)⟩ = _
  rw [← h1]
  rfl
end
end Go.Proofs.YtnoghchcboiojaaGreatDoor
end
namespace Go.Proofs.YtnoghchcboiojaaGreatDoor
open Go.Ev Go.ChangeShapes Go.WideShapes Go.RowKit
open Go.ChangeMaps (open_string)
theorem runSteps_in : InList Rows.runStepsRow.laid := ⟨by kernel_rfl,by simp [Rows.runStepsRow],by simp [Rows.runStepsRow],by simp [Rows.runStepsRow],by simp [Rows.runStepsRow]⟩
set_option maxRecDepth 100000 in
theorem runSteps_lifted (os : Os) (started : os.Started) (H : Type) (enc : TypeId × Value → H) (F : Stop.Interp) :
  ReturnsInLeavingWide { calm := true } Tryz.checked os 6 .any (fun w args => (Rows.runStepsSpec.pre enc Tryz.prog Tryz.f6 [] false w args ∧ laidMetH Tryz.prog Rows.runStepsRow.laid w) ∧ sizedMet enc Tryz.prog Tryz.f6 (OpenSpec.ofChange Rows.runStepsSpec) false w args)
   ((OpenSpec.ofChange Rows.runStepsSpec).postWith enc Tryz.prog Tryz.f6 F (outsideKept [.timePasses]) false true false) := by
 refine returnsInLeaving_of_change_and (C := Tryz.checked) (X := fun w _ => laidMetH Tryz.prog Rows.runStepsRow.laid w) (fun _ _ _ hh h => h.of_heap hh) seat_own started (by kernel_rfl) Tryz.func6
  (witness_calm (enc := enc) (C := Tryz.checked) (os := os) (X := fun w _ => laidMetH Tryz.prog Rows.runStepsRow.laid w) (World.laidAll Tryz.prog os Rows.runStepsRow.laid) #[.agg #[.int .i64 0,.int .i64 0,.int .i64 0,.int .i64 0,.int .i64 0,.int .i64 0],.slice none 0 0] 8 (World.laidAll_os _ _ _)
    (World.shaped_of_ZipB (by kernel_rfl) (by kernel_rfl)) (by kernel_rfl) (by kernel_rfl) (by kernel_rfl)
    (by rw [MakeChecks.laidMetH_plain _ _ _ (by kernel_rfl)];exact laidMet_laidAll _ (by kernel_rfl) (by kernel_rfl))) ?_
 intro W base args ds gs before hval0 hW _ hwt hL hsh _
 have hval : ∀ (j : Nat) t v,Tryz.f6.params[j]? = some t → args[j]? = some v → Value.okWide Tryz.prog W .any base t v := hval0
 have hW' : DataW.Whole enc Tryz.prog Tryz.f6.params.toList Rows.runStepsSpec.vars false W args.toList ds gs before := hW
 have hwt' : (DataW.weightsEach Tryz.prog (Tryz.f6.params.toList ++ Rows.runStepsSpec.plain.varTypes Tryz.prog) (ds ++ gs)).all (· ≤ reachBytes) = true := hwt
 obtain ⟨p,q,hA,_,_,_,_⟩ := hW'
 rw [Tryz.params6] at hA hval hwt'
 obtain ⟨v0,v1,d0,d1,p0,p1,rfl,rfl,rfl,h0,h1⟩ := trodAll_two hA
 obtain ⟨r,e0,hr⟩ := open_rules (hval 0 23 v0 rfl rfl) h0 (weights_at hwt' 0 rfl rfl)
 obtain ⟨l,hI⟩ := open_steps (hval 1 24 v1 rfl rfl) h1 (weights_at hwt' 1 rfl rfl)
 have h14 := size_of_shape hsh
 obtain ⟨v,h',e,rfl⟩ := law6 (F := 4398046511201) (glo_of runSteps_in hL hsh) (gloR_of runSteps_in hL) (by rw [absH_size];exact h14) (by decide) r hr _ l hI
 rw [← e0] at e
 exact law_calls_os (P := Tryz.prog) (f := 6) (cf_ok1 _) (vars_of runSteps_in hL hsh h14) hW seat_laidOut rfl rfl (by kernel_rfl) Tryz.underlying4 (by kernel_rfl) e
end Go.Proofs.YtnoghchcboiojaaGreatDoor
