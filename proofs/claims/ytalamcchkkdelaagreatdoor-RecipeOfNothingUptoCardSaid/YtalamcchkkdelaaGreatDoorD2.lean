/- Texts of the proofs over heraldlaw20, put together by a program (merge20.py): Nx1. -/
import Derived.Test.YtalamcchkkdelaaGreatDoorD1
import Derived.Test.YtalamcchkkdelaaGreatDoorC12
import Derived.Test.YtalamcchkkdelaaGreatDoorC13
set_option linter.unusedVariables false
set_option linter.unusedSimpArgs false
section
set_option maxRecDepth 100000
namespace Go.Proofs
open Go.Shelf Go.Ev Go.RowKit
namespace YtalamcchkkdelaaGreatDoor
theorem x_of {f : FuncId} {x : List Value → H → Res} (hc : callable Tryz.prog f = true)
  (hx : ∀ args h r h',x args h = some (r,h') → isPan r = false ∧ ∀ ρ w args',Rel ρ h w → VRs ρ args args' → Calls Tryz.prog f ⟨args'⟩ w fun e w' => ∃ v' ρ',e = .returned v' ∧ VR ρ' r v' ∧ Rel ρ' h' w' ∧ Ext ρ h w ρ' h' w') :
  CallOk Tryz.prog (fun g args h => if g = f then x args h else none) := by
 intro g args h r h' e
 simp only at e
 split at e
 ·rename_i hg
  subst hg
  obtain ⟨h1,h2⟩ := hx args h r h' e
  refine ⟨hc,fun ρ w args' hr hv => (h2 ρ w args' hr hv).mono ?_⟩
  rintro e w' ⟨v',ρ',h3,h4,h5,h6⟩
  exact .inl ⟨h1,v',ρ',h3,h4,h5,h6⟩
 ·cases e
theorem grown_of {w w' : World} (h : Below w.heap.size w w') : w.grownBy w' none := ⟨h.os,h.tape,h.output,h.size,fun k hk _ => h.block k hk⟩
theorem string_inv {ρ : Go.Ev.Ren} {s : ByteArray} {v : Value} (h : VR ρ (.string s) v) : v = .string s := by cases h;rfl
theorem int_inv {ρ : Go.Ev.Ren} {k : IntKind} {n : Int} {v : Value} (h : VR ρ (.int k n) v) : v = .int k n := by cases h;rfl
theorem args1 {ρ : Go.Ev.Ren} {a : Value} {l : List Value} (h : VRs ρ [a] l) : ∃ a',l = [a'] ∧ VR ρ a a' := by
 cases h with
 | cons h1 h2 => cases h2;exact ⟨_,rfl,h1⟩
theorem args2 {ρ : Go.Ev.Ren} {a b : Value} {l : List Value} (h : VRs ρ [a,b] l) : ∃ a' b',l = [a',b'] ∧ VR ρ a a' ∧ VR ρ b b' := by
 cases h with
 | cons h1 h2 => obtain ⟨b',rfl,h3⟩ := args1 h2;exact ⟨_,_,rfl,h1,h3⟩
theorem strings_rel (ρ : Go.Ev.Ren) : ∀ l : List ByteArray,VRs ρ (l.map Value.string) (l.map Value.string)
 | [] => .nil
 | s :: l => .cons (.string s) (strings_rel ρ l)
theorem split_ok : CallOk Tryz.prog (fun g args h => if g = 60 then xSplit args h else none) := by
 refine x_of (by kernel_rfl) fun args h r h' e => ?_
 unfold xSplit at e
 split at e
 ·rename_i s sep
  split at e
  ·rename_i m cs es lv an hg
   split at e
   ·rename_i hs
    cases e
    refine ⟨rfl,fun ρ w args' hr hv => ?_⟩
    obtain ⟨a',b',rfl,h1,h2⟩ := args2 hv
    have h1 := string_inv h1
    have h2 := string_inv h2
    subst h1 h2
    have hb := hr.blk 1 _ _ (hr.glb 1 (by decide)) hg
    obtain ⟨_,_,hcell⟩ := hb
    obtain ⟨v',hv',hvr⟩ := hcell 0 _ rfl
    have := int_inv hvr
    subst this
    refine (Any.strings_Split splitL (by kernel_rfl) s sep m w hs.1 hv' hs.2).mono ?_
    rintro e w' ⟨rfl,rfl⟩
    have hlen : (splitL' s sep).length = Lib.countB s sep + 1 := Lib.splitB_all sep hs.2 0 _ s rfl
    have hrow := row_rel hr ((splitL' s sep).map Value.string) ((splitL' s sep).map Value.string).toArray (splitR.t 9) 1 true [] (by simp) 0
     (by rw [show (((splitL' s sep).map Value.string).toArray).toList = (splitL' s sep).map Value.string from rfl,List.take_length];exact strings_rel ρ (splitL' s sep)) (by simp) ⟨w.heap.size,0,1,0⟩ rfl
    refine ⟨_,_,rfl,?_,hrow.1,hrow.2⟩
    exact VR.slice (i := ⟨w.heap.size,0,1,0⟩) (by simp [Ren.put]) (Nat.le_refl _) (Nat.le_refl _) (by simp) (.inl rfl)
   ·cases e
  ·cases e
 ·cases e
theorem texts_inv {ρ : Go.Ev.Ren} : ∀ {l l' : List Value} {xs : List ByteArray},textsOf l = some xs → VRs ρ l l' → l' = xs.map Value.string
 | [],_,_,h,v => by
  simp [textsOf] at h;subst h
  cases v;rfl
 | a :: r,_,xs,h,v => by
  cases v with
  | cons h1 h2 =>
   cases a with
   | string s =>
    simp only [textsOf] at h
    obtain ⟨l,hl,rfl⟩ := Option.map_eq_some_iff.1 h
    have := string_inv h1
    subst this
    rw [texts_inv hl h2];rfl
   | _ => simp [textsOf] at h
theorem textsOf_len : ∀ {l : List Value} {xs : List ByteArray},textsOf l = some xs → l.length = xs.length
 | [],_,h => by simp [textsOf] at h;subst h;rfl
 | a :: r,xs,h => by
  cases a with
  | string s =>
   simp only [textsOf] at h
   obtain ⟨l,hl,rfl⟩ := Option.map_eq_some_iff.1 h
   simp [textsOf_len hl]
  | _ => simp [textsOf] at h
theorem join_ok : CallOk Tryz.prog (fun g args h => if g = 102 then xJoin args h else none) := by
 refine x_of (by kernel_rfl) fun args h r h' e => ?_
 unfold xJoin at e
 split at e
 ·rename_i sep
  cases e
  refine ⟨rfl,fun ρ w args' hr hv => ?_⟩
  obtain ⟨a',b',rfl,h1,h2⟩ := args2 hv
  have h2 := string_inv h2
  subst h2
  cases h1
  refine (Any.strings_Join_none joinL bldX none 0 sep w).mono ?_
  rintro e w' ⟨rfl,rfl⟩
  exact ⟨_,ρ,rfl,.string _,hr,Ext.refl _ _ _⟩
 ·rename_i b o n c sep
  split at e
  ·rename_i hn
   split at e
   ·rename_i l hl
    split at e
    ·rename_i xs hxs
     split at e
     ·rename_i hj
      cases e
      refine ⟨rfl,fun ρ w args' hr hv => ?_⟩
      obtain ⟨a',b',rfl,h1,h2⟩ := args2 hv
      have h2 := string_inv h2
      subst h2
      cases h1 with
      | slice hb hnc hcc hroom ho =>
       rename_i o' c' i
       obtain ⟨g1,l',g2,g3⟩ := rd_rel hr hb hl
       have g4 := texts_inv hxs g2
       have g5 := textsOf_len hxs
       have ho' : o' = o + i.sh := by
        rcases ho with ho | ho
        ·exact ho
        ·omega
       subst ho'
       subst g4
       have e5 : n = xs.length := by omega
       rw [e5]
       refine (Any.strings_Join joinL bldX i.blk (o + i.sh) c' xs sep w ?_ (hr.bnd _ _ hb) (by omega) (by omega) hj.1).mono ?_
       ·intro j x hx
        exact g3 j _ (by simp [hx])
       ·rintro e w' ⟨rfl,hw⟩
        have g := grown_of hw
        exact ⟨_,ρ,rfl,.string _,(grown_rel hr g).1,(grown_rel hr g).2⟩
     ·cases e
    ·cases e
   ·cases e
  ·cases e
 ·cases e
end YtalamcchkkdelaaGreatDoor
end Go.Proofs
end
