/- Texts of the proofs over heraldlaw20, put together by a program (merge20.py): Nk0. -/
import Derived.Test.YtalamcchkkdelaaGreatDoorC8
import Derived.OwnWalk
set_option linter.unusedVariables false
set_option linter.unusedSimpArgs false
namespace Go.Ev
open Go.RowKit
theorem grown_rel {ρ : Ren} {h : H} {w w' : World} (r : Rel ρ h w) (g : w.grownBy w' none) : Rel ρ h w' ∧ Ext ρ h w ρ h w' := by
 refine upg2 r ⟨⟨r.dom,fun b i hb => Nat.lt_of_lt_of_le (r.bnd b i hb) g.size,fun b i x hb hx => (r.blk b i x hb hx).keep (.refl _) (g.block _ (r.bnd b i hb) (by simp)),r.sep,r.anc,r.glb⟩,⟨.refl _,Nat.le_refl _,g.size,fun _ _ _ => rfl,fun b' hb' _ => g.block b' hb' (by simp),fun _ _ q => .inl q,?_,⟨g.os,g.output⟩⟩⟩
 intro b x x' _ h1 h2 h3
 rw [h1] at h2
 cases h2
 exact h3
end Go.Ev
