/- Texts of the proofs over heraldlaw18, put together by a program (merge18c.py): Rd0. -/
import Derived.Test.YtnoghchcboiojaaGreatDoorPD2
import Derived.Test.YtnoghchcboiojaaGreatDoorPD6
import Derived.Test.YtnoghchcboiojaaGreatDoorPD1
set_option linter.unusedVariables false
set_option linter.unusedSimpArgs false
section
set_option maxRecDepth 100000
namespace Go.Proofs
open Go.Shelf Go.Ev Go.RowKit
namespace YtnoghchcboiojaaGreatDoor
def r17 : List AOper := [⟨some 13,none,.op (.build [.int .i64 0,.int .i64 0,.int .i64 0,.int .i64 0,.int .i64 0,.int .i64 0] [])⟩,⟨some 14,none,.op (.load1 (.tmp 0))⟩,⟨none,none,.op (.store 6 (.tmp 1) (.tmp 13))⟩,
 ⟨none,none,.op (.store 1 (.tmp 2) (.const (.slice none 0 0)))⟩,⟨none,none,.op (.store 1 (.tmp 3) (.const (.int .i64 180)))⟩,⟨none,none,.op (.store 1 (.tmp 4) (.tmp 14))⟩]
def cx0 : Cx := ⟨fun _ _ _ => none,fun _ _ _ _ => none⟩
def kn0 : K := fun _ h ds => match ds with
 | [] => some (.tuple ⟨[]⟩,h)
 | _ => none
def xCatch (args : List Value) (h : H) (m : Option Value) : Option (Option Value × H) := match m with
 | none => some (none,h)
 | some (.iface 48 (.agg ⟨[]⟩)) => (evC 0 cx0 (.region r17 []) kn0 noK (noK 0) (envOf 0 args) h []).map fun r => (none,r.2)
 | _ => none
theorem comp17 : compC Tryz.prog 15 (bodyOf Tryz.f17.body).2.2 [[]] = some (.region r17 [],[]) := by kernel_rfl
theorem cx0_ok : CallOk Tryz.prog cx0.c := fun _ _ _ _ _ e => by cases e
theorem catch_dok : CallDOk Tryz.prog (fun g args h m => if g = 17 ∧ args.length = 5 then xCatch args h m else none) := by
 intro f args h m m' h' e
 simp only at e
 split at e
 ·rename_i hf
  obtain ⟨rfl,hlen⟩ := hf
  refine ⟨by kernel_rfl,fun ρ w args' u hr hv hm => ?_⟩
  have hl' : args'.length = 5 := by rw [← hv.length];exact hlen
  obtain ⟨p0,p1,p2,p3,p4,rfl⟩ : ∃ p0 p1 p2 p3 p4,args' = [p0,p1,p2,p3,p4] := by
   match args',hl' with
   | [p0,p1,p2,p3,p4],_ => exact ⟨_,_,_,_,_,rfl⟩
  have ha := grown_rel hr (World.grownBy_alloc w (.cells #[] 48) none)
  unfold xCatch at e
  split at e
  ·cases e
   cases hm
   refine (idle_at p0 p1 p2 p3 p4 w).mono ?_
   rintro e u' w' ⟨rfl,rfl,rfl⟩
   exact ⟨_,ρ,rfl,.none,ha.1,ha.2⟩
  ·cases hm with
   | some hx =>
    rename_i x'
    cases hx with
    | iface _ hv' =>
     rename_i v'
     cases hv' with
     | agg hc =>
      cases hc
      obtain ⟨res,hres,hf⟩ := Option.map_eq_some_iff.1 e
      cases hf
      refine catch_at p0 p1 p2 p3 p4 w _ ?_
      have he : EnvRel ρ 15 (envOf 0 args) (#[p0,p1,p2,p3,p4,.pointer (some ⟨w.heap.size,0,none⟩),.bool true,.tuple #[.agg #[],.bool true],.iface 48 (.agg #[]),.tuple #[.agg #[],.bool true],.agg #[],.bool true,.bool true,undef,undef] : Array Value) := by
       refine ⟨rfl,fun t => ?_,hr.glb⟩
       rw [envOf_get]
       by_cases ht : 0 ≤ t ∧ t < 0 + args.length
       ·rw [if_pos ht]
        have ht' : t < args.length := by omega
        obtain ⟨v2,g1,g2⟩ := hv.get (i := t) (v := args[t]) (by simp [ht'])
        have e1 : args.getD (t - 0) junk = args[t] := by simp [List.getD_eq_getElem?_getD,ht']
        rw [e1]
        have e2 : (#[p0,p1,p2,p3,p4,.pointer (some ⟨w.heap.size,0,none⟩),.bool true,.tuple #[.agg #[],.bool true],.iface 48 (.agg #[]),.tuple #[.agg #[],.bool true],.agg #[],.bool true,.bool true,undef,undef] : Array Value).getD t undef = v2 := by
         rw [Array.getD_eq_getD_getElem?]
         have ht5 : t = 0 ∨ t = 1 ∨ t = 2 ∨ t = 3 ∨ t = 4 := by omega
         rcases ht5 with rfl | rfl | rfl | rfl | rfl <;> simpa using g1
        rw [e2];exact g2
       ·rw [if_neg ht];exact .junk _
      refine wp_mono (evC_sound (cx := cx0) splitL.mixed cx0_ok 0 res _ [[]] _ _ comp17 kn0 noK (noK 0) ρ h _ (w.alloc (.cells #[] 48)) (envOf 0 args) [] ha.1 he .nil hres) ?_
      intro ex a w' hq
      cases ex with
      | normal =>
       obtain ⟨ρ',s,h2,ds,r2,he2,hd2,hx2,e2⟩ := hq
       cases ds with
       | cons _ _ => cases e2
       | nil =>
        cases e2
        have hd3 : a.defers = [] := by
         generalize a.defers = l at hd2
         cases hd2
         rfl
        exact ⟨rfl,hd3,_,ρ',rfl,.none,r2,Ext.trans hr ha.2 hx2⟩
      | ret =>
       obtain ⟨ρ',s,h2,ds,r2,he2,hd2,hx2,e2⟩ := hq
       cases e2
      | exit i =>
       obtain ⟨ρ',s,h2,ds,r2,he2,hd2,hx2,e2⟩ := hq
       cases e2
      | panic ch =>
       obtain ⟨ρ',s,h2,ds,x,x',r2,he2,hd2,hx2,e2,_⟩ := hq
       cases e2
      | _ => exact hq.elim
  ·cases e
 ·cases e
end YtnoghchcboiojaaGreatDoor
end Go.Proofs
end
