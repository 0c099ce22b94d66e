/- Texts of the proofs over heraldlaw18, put together by a program (merge18c.py): Sx1b. -/
import Derived.Test.YtnoghchcboiojaaGreatDoorPD12
import Derived.Test.YtnoghchcboiojaaGreatDoorPD13
set_option linter.unusedVariables false
set_option linter.unusedSimpArgs false
section
set_option maxRecDepth 100000
namespace Go.Proofs.YtnoghchcboiojaaGreatDoor
open Go.Ev
open Go.Rn (Bs Tok Ru St PRes)
variable {p : Bool} {F : Nat} {h : H}
theorem law3 (hG : Glo h) (hR : GloR h) (h14 : 14 ≤ h.size) (hF : 4398046511200 < F) (t : Bs) : Ans (cf true (F + 12) 3 [vs t] h) fun v _ => v = .bool true := by
 rw [cf_step (a := a3) rfl rfl (by simp [a3])]
 have q1 : F + 2 + 9 = F + 11 := by omega
 have q2 : F + 4 + 7 = F + 11 := by omega
 have q3 : F + 9 + 2 = F + 11 := by omega
 have e1 := parse_spec (p := true) (F := F + 2) t hG h14 (by omega)
 have e2 := fun (h1 : H) (k : Kept h h1 []) => rparse_spec (p := true) (h := h1) (F := F + 4) t (hR.kept k) (by omega)
 have e3 := fun (h1 : H) (k : Kept h h1 []) => fixed_spec (h := h1) (F := F) (hG.kept0 k) (Nat.le_trans h14 k.1) hF
 have e4 := fun (h1 : H) (ok ok' : Nat → Prop) (v w : Value) (xs ys : List St) (hx : SlR ok 6 StE h1 v xs) (hy : SlR ok' 6 StE h1 w ys) (hl : xs.length ≤ 400) (ho : ∀ s ∈ xs,s.ops.length ≤ 4) =>
  steps_eq (p := true) (h := h1) (F := F + 9) hx hy (by omega) (by omega) (fun s hs => by have := ho s hs;exact ⟨by omega,by omega⟩)
 rw [q1] at e1
 rw [q2] at e2
 rw [q3] at e4
 generalize cf true (F + 11) = c at *
 simp [a3,r3_0,r3_1]
 refine Ans.next e1 ?_
 rintro w h1 ⟨k1,hw⟩
 cases hp : Rn.parse t with
 | ok r l =>
  rw [hp] at hw e2
  obtain ⟨sv,xs,rfl,hxl,rfl,hS⟩ := hw
  obtain ⟨b1,b2⟩ := Rn.parse_len hp
  have hre := ru_eq r
  have hex : ∃ a b c d e f : Int,ruC r = [vi a,vi b,vi c,vi d,vi e,vi f] := ⟨_,_,_,_,_,_,rfl⟩
  simp only [ParseQ] at e2
  generalize ruC r = R at *
  obtain ⟨na,nb,nc,nd,ne,nf,rfl⟩ := hex
  have k2 := k1.trans (rowKept h1 [vi na,vi nb,vi nc,vi nd,vi ne,vi nf] 0 [])
  have hA : hget (Ev.newRow h1 [vi na,vi nb,vi nc,vi nd,vi ne,vi nf] 0 []) h1.size = some (.cells [vi na,vi nb,vi nc,vi nd,vi ne,vi nf] 0 true []) := by simp
  have hS2 := hS.kept (rowKept h1 [vi na,vi nb,vi nc,vi nd,vi ne,vi nf] 0 []) (by simp)
  have y1 := (rowKept h1 [vi na,vi nb,vi nc,vi nd,vi ne,vi nf] 0 []).1
  have z1 : (Ev.newRow h1 [vi na,vi nb,vi nc,vi nd,vi ne,vi nf] 0 []).size = h1.size + 1 := by simp
  simp (disch := first|omega|(simp only [zS];first|done|omega)) [bB,r3_2]
  generalize Ev.newRow h1 [vi na,vi nb,vi nc,vi nd,vi ne,vi nf] 0 [] = h2 at *
  refine Ans.next (e2 _ k2) ?_
  rintro w h3 ⟨k3,sv',xs',hxx,hxl',rfl,hS3⟩
  have k4 := (k2.trans k3).trans (rowKept h3 [vi na,vi nb,vi nc,vi nd,vi ne,vi nf] 0 [])
  have k4' := k3.trans (rowKept h3 [vi na,vi nb,vi nc,vi nd,vi ne,vi nf] 0 [])
  have hB : hget (Ev.newRow h3 [vi na,vi nb,vi nc,vi nd,vi ne,vi nf] 0 []) h3.size = some (.cells [vi na,vi nb,vi nc,vi nd,vi ne,vi nf] 0 true []) := by simp
  have hS4 := hS3.kept (rowKept h3 [vi na,vi nb,vi nc,vi nd,vi ne,vi nf] 0 []) (by simp)
  have z3 : (Ev.newRow h3 [vi na,vi nb,vi nc,vi nd,vi ne,vi nf] 0 []).size = h3.size + 1 := by simp
  simp (disch := first|omega|(simp only [zS];first|done|omega)) [bB,r3_3]
  generalize Ev.newRow h3 [vi na,vi nb,vi nc,vi nd,vi ne,vi nf] 0 [] = h4 at *
  refine Ans.next (e3 _ k4) ?_
  rintro w h5 ⟨k5,rfl⟩
  have hA5 := ((k4'.trans k5).get (b := h1.size) (by omega) (by simp)).trans hA
  have hB5 := (k5.get (b := h3.size) (by omega) (by simp)).trans hB
  have s1 := (hS2.kept (k4'.trans k5) (by simp)).steps
  have s2 := (hS4.kept k5 (by simp)).steps
  rw [← hxx] at s2
  have e5 := e4 _ _ _ _ _ _ _ s1 s2 b1 b2
  simp only [decide_true] at e5
  simp (disch := first|omega|(simp only [zS];first|done|omega)) [bB,r3_4,hA5,hB5,hre,e5]
  exact Ans.of rfl
 | long row =>
  rw [hp] at hw e2
  obtain rfl := hw
  simp only [ParseQ,errV,zer] at e2
  have k2 := k1.trans (rowKept h1 [vi 0,vi 0,vi 0,vi 0,vi 0,vi 0] 0 [])
  have hA : hget (Ev.newRow h1 [vi 0,vi 0,vi 0,vi 0,vi 0,vi 0] 0 []) h1.size = some (.cells [vi 0,vi 0,vi 0,vi 0,vi 0,vi 0] 0 true []) := by simp
  have z1 : (Ev.newRow h1 [vi 0,vi 0,vi 0,vi 0,vi 0,vi 0] 0 []).size = h1.size + 1 := by simp
  simp (disch := first|omega|(simp only [zS];first|done|omega)) [bB,r3_2,errV,zer]
  generalize Ev.newRow h1 [vi 0,vi 0,vi 0,vi 0,vi 0,vi 0] 0 [] = h2 at *
  refine Ans.next (e2 _ k2) ?_
  rintro w h3 ⟨k3,rfl⟩
  have k4 := (k2.trans k3).trans (rowKept h3 [vi 0,vi 0,vi 0,vi 0,vi 0,vi 0] 0 [])
  have k4' := k3.trans (rowKept h3 [vi 0,vi 0,vi 0,vi 0,vi 0,vi 0] 0 [])
  have hB : hget (Ev.newRow h3 [vi 0,vi 0,vi 0,vi 0,vi 0,vi 0] 0 []) h3.size = some (.cells [vi 0,vi 0,vi 0,vi 0,vi 0,vi 0] 0 true []) := by simp
  have z3 : (Ev.newRow h3 [vi 0,vi 0,vi 0,vi 0,vi 0,vi 0] 0 []).size = h3.size + 1 := by simp
  simp (disch := first|omega|(simp only [zS];first|done|omega)) [bB,r3_3]
  generalize Ev.newRow h3 [vi 0,vi 0,vi 0,vi 0,vi 0,vi 0] 0 [] = h4 at *
  refine Ans.next (e3 _ k4) ?_
  rintro w h5 ⟨k5,rfl⟩
  have hA5 := ((k4'.trans k5).get (b := h1.size) (by omega) (by simp)).trans hA
  have hB5 := (k5.get (b := h3.size) (by omega) (by simp)).trans hB
  have e5 := e4 h5 (fun _ => True) (fun _ => True) (.slice none 0 0) (.slice none 0 0) [] [] (.inl ⟨.inl rfl,rfl⟩) (.inl ⟨.inl rfl,rfl⟩) (by simp) (by simp)
  simp only [decide_true] at e5
  simp (disch := first|omega|(simp only [zS];first|done|omega)) [bB,r3_4,hA5,hB5,cellsEq,cellEq,e5]
  exact Ans.of rfl
 | bad row =>
  rw [hp] at hw e2
  obtain rfl := hw
  simp only [ParseQ,errV,zer] at e2
  have k2 := k1.trans (rowKept h1 [vi 0,vi 0,vi 0,vi 0,vi 0,vi 0] 0 [])
  have hA : hget (Ev.newRow h1 [vi 0,vi 0,vi 0,vi 0,vi 0,vi 0] 0 []) h1.size = some (.cells [vi 0,vi 0,vi 0,vi 0,vi 0,vi 0] 0 true []) := by simp
  have z1 : (Ev.newRow h1 [vi 0,vi 0,vi 0,vi 0,vi 0,vi 0] 0 []).size = h1.size + 1 := by simp
  simp (disch := first|omega|(simp only [zS];first|done|omega)) [bB,r3_2,errV,zer]
  generalize Ev.newRow h1 [vi 0,vi 0,vi 0,vi 0,vi 0,vi 0] 0 [] = h2 at *
  refine Ans.next (e2 _ k2) ?_
  rintro w h3 ⟨k3,rfl⟩
  have k4 := (k2.trans k3).trans (rowKept h3 [vi 0,vi 0,vi 0,vi 0,vi 0,vi 0] 0 [])
  have k4' := k3.trans (rowKept h3 [vi 0,vi 0,vi 0,vi 0,vi 0,vi 0] 0 [])
  have hB : hget (Ev.newRow h3 [vi 0,vi 0,vi 0,vi 0,vi 0,vi 0] 0 []) h3.size = some (.cells [vi 0,vi 0,vi 0,vi 0,vi 0,vi 0] 0 true []) := by simp
  have z3 : (Ev.newRow h3 [vi 0,vi 0,vi 0,vi 0,vi 0,vi 0] 0 []).size = h3.size + 1 := by simp
  simp (disch := first|omega|(simp only [zS];first|done|omega)) [bB,r3_3]
  generalize Ev.newRow h3 [vi 0,vi 0,vi 0,vi 0,vi 0,vi 0] 0 [] = h4 at *
  refine Ans.next (e3 _ k4) ?_
  rintro w h5 ⟨k5,rfl⟩
  have hA5 := ((k4'.trans k5).get (b := h1.size) (by omega) (by simp)).trans hA
  have hB5 := (k5.get (b := h3.size) (by omega) (by simp)).trans hB
  have e5 := e4 h5 (fun _ => True) (fun _ => True) (.slice none 0 0) (.slice none 0 0) [] [] (.inl ⟨.inl rfl,rfl⟩) (.inl ⟨.inl rfl,rfl⟩) (by simp) (by simp)
  simp only [decide_true] at e5
  simp (disch := first|omega|(simp only [zS];first|done|omega)) [bB,r3_4,hA5,hB5,cellsEq,cellEq,e5]
  exact Ans.of rfl
end Go.Proofs.YtnoghchcboiojaaGreatDoor
end
