/- Texts of the proofs over heraldlaw18, put together by a program (merge18c.py): Rp4. -/
import Derived.Test.YtnoghchcboiojaaGreatDoorPC0
import Derived.Lib.Split
set_option linter.unusedVariables false
set_option linter.unusedSimpArgs false
namespace Go.Rn
def Suf (r l : Bs) : Prop := ∃ w,l = w ++ r
theorem Suf.refl (l : Bs) : Suf l l := ⟨[],rfl⟩
theorem Suf.cons {r l : Bs} (h : Suf r l) (c : UInt8) : Suf r (c :: l) := by
 obtain ⟨w,rfl⟩ := h
 exact ⟨c :: w,rfl⟩
theorem Suf.drop {r l : Bs} (h : Suf r l) : l.drop (l.length - r.length) = r := by
 obtain ⟨w,rfl⟩ := h
 rw [List.length_append,Nat.add_sub_cancel,List.drop_left]
theorem suf_while (p : UInt8 → Bool) (l : Bs) : Suf (l.dropWhile p) l := ⟨l.takeWhile p,List.takeWhile_append_dropWhile.symm⟩
theorem quo_suf : ∀ (n : Nat) (l : Bs),l.length ≤ n → ∀ {w r : Bs},quo l = some (w,r) → Suf r l
 | _,[],_,w,r,h => by rw [quo_nil] at h;cases h
 | 0,_ :: _,hn,w,r,h => by simp at hn
 | n + 1,c :: l,hn,w,r,h => by
  rw [quo_cons] at h
  split at h
  ·cases h;exact (Suf.refl _).cons _
  ·split at h
   ·cases h
   ·split at h
    ·obtain ⟨p,hp,hf⟩ := Option.map_eq_some_iff.1 h
     cases hf
     exact (quo_suf n l (by simp at hn;omega) (w := p.1) (r := p.2) hp).cons _
    ·split at h
     ·cases h
     ·rename_i e r1
      split at h
      ·obtain ⟨p,hp,hf⟩ := Option.map_eq_some_iff.1 h
       cases hf
       exact ((quo_suf n r1 (by simp at hn;omega) (w := p.1) (r := p.2) hp).cons _).cons _
      ·split at h
       ·obtain ⟨p,hp,hf⟩ := Option.map_eq_some_iff.1 h
        cases hf
        exact ((quo_suf n r1 (by simp at hn;omega) (w := p.1) (r := p.2) hp).cons _).cons _
       ·split at h
        ·split at h
         ·rename_i a b r2
          split at h
          ·obtain ⟨p,hp,hf⟩ := Option.map_eq_some_iff.1 h
           cases hf
           exact ((((quo_suf n r2 (by simp at hn;omega) (w := p.1) (r := p.2) hp).cons _).cons _).cons _).cons _
          ·cases h
         ·cases h
        ·cases h
theorem one_suf {l : Bs} {t : Tok} {r : Bs} (h : one l = some (t,r)) : Suf r l := by
 unfold one at h
 split at h
 ·cases h
 ·rename_i c l
  split at h
  ·split at h
   ·cases h
   ·cases h;exact suf_while _ _
  ·split at h
   ·obtain ⟨p,hp,hf⟩ := Option.map_eq_some_iff.1 h
    cases hf
    unfold numeral at hp
    have hl1 : Suf ((if ((c :: l).head? == some 45) = true then (c :: l).tail else c :: l) : Bs) (c :: l) := by
     split
     ·exact (Suf.refl _).cons _
     ·exact Suf.refl _
    generalize (if ((c :: l).head? == some 45) = true then (c :: l).tail else c :: l) = l1 at hp hl1
    unfold numeral1 at hp
    split at hp
    ·cases hp
    ·split at hp
     ·cases hp
     ·cases hp
      obtain ⟨w,hw⟩ := hl1
      obtain ⟨w2,hw2⟩ := suf_while digit l1
      exact ⟨w ++ w2,by rw [hw];conv => lhs;rw [hw2]
                        simp⟩
   ·split at h
    ·cases h;exact suf_while _ _
    ·split at h
     ·obtain ⟨p,hp,hf⟩ := Option.map_eq_some_iff.1 h
      cases hf
      exact (quo_suf l.length l (Nat.le_refl _) (w := p.1) (r := p.2) hp).cons _
     ·cases h
end Go.Rn
