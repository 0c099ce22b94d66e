/- Texts of the proofs over heraldlaw18, put together by a program (merge18c.py): Ks0 Kd0 Kd1 Kd2 Kd3 Kd4 Kd5 Kd6 Kd7. -/
import Derived.Test.YtnoghchcboiojaaGreatDoorPC15
import Derived.Test.YtnoghchcboiojaaGreatDoorPD12
import Derived.Test.YtnoghchcboiojaaGreatDoorPD13
set_option linter.unusedVariables false
set_option linter.unusedSimpArgs false
namespace Go.Ev
abbrev Col := Nat
abbrev Kp := Nat → Col
def ext (κ : Kp) (n : Nat) (t : Col) : Kp := fun c => if c < n then κ c else t
theorem ext_lt {κ : Kp} {n : Nat} {t : Col} {c : Nat} (h : c < n) : ext κ n t c = κ c := by simp [ext,h]
theorem ext_ge {κ : Kp} {n : Nat} {t : Col} {c : Nat} (h : n ≤ c) : ext κ n t c = t := by simp [ext];omega
def Agr (n : Nat) (κ κ' : Kp) : Prop := ∀ c,c < n → κ' c = κ c
theorem Agr.refl (n : Nat) (κ : Kp) : Agr n κ κ := fun _ _ => rfl
theorem Agr.trans {n m : Nat} {κ κ1 κ2 : Kp} (a : Agr n κ κ1) (b : Agr m κ1 κ2) (h : n ≤ m) : Agr n κ κ2 := fun c hc => (b c (Nat.lt_of_lt_of_le hc h)).trans (a c hc)
theorem Agr.ext {n m : Nat} {t : Col} {κ : Kp} (h : n ≤ m) : Agr n κ (ext κ m t) := fun c hc => ext_lt (Nat.lt_of_lt_of_le hc h)
def Ch (κ : Kp) (S : Col → Prop) (g g' : H) : Prop := g.size ≤ g'.size ∧ ∀ c,c < g.size → ¬ S (κ c) → hget g' c = hget g c
def no : Col → Prop := fun _ => False
theorem Ch.refl (κ : Kp) (S : Col → Prop) (g : H) : Ch κ S g g := ⟨Nat.le_refl _,fun _ _ _ => rfl⟩
theorem Ch.of {κ : Kp} {S : Col → Prop} {g g' : H} (k : Kept g g' []) : Ch κ S g g' := ⟨k.1,fun c hc _ => k.get hc (by simp)⟩
theorem Ch.ofL {κ : Kp} {S : Col → Prop} {g g' : H} {L : List Nat} (k : Kept g g' L) (hL : ∀ c ∈ L,S (κ c)) : Ch κ S g g' := ⟨k.1,fun c hc hn => k.get hc (fun q => hn (hL c q))⟩
theorem Ch.trans {κ κ' : Kp} {S : Col → Prop} {g g1 g2 : H} (a : Ch κ S g g1) (b : Ch κ' S g1 g2) (hk : Agr g.size κ κ') : Ch κ S g g2 := ⟨Nat.le_trans a.1 b.1,fun c hc hn =>
 (b.2 c (Nat.lt_of_lt_of_le hc a.1) (by rw [hk c hc];exact hn)).trans (a.2 c hc hn)⟩
theorem Ch.weak {κ : Kp} {S S' : Col → Prop} {g g' : H} (a : Ch κ S g g') (h : ∀ c,S c → S' c) : Ch κ S' g g' := ⟨a.1,fun c hc hn => a.2 c hc (fun q => hn (h _ q))⟩
theorem Ch.get {κ : Kp} {S : Col → Prop} {g g' : H} (k : Ch κ S g g') {c : Nat} {x : Blk} (h : hget g c = some x) (hn : ¬ S (κ c)) : hget g' c = some x := (k.2 c (lt_of_get h) hn).trans h
theorem Ch.cel {κ : Kp} {S : Col → Prop} {g g' : H} (k : Ch κ S g g') {c : Nat} {cs : List Value} (h : cel g c = some cs) (hn : ¬ S (κ c)) : cel g' c = some cs := (cel_congr (k.2 c (cel_lt h) hn)).trans h
abbrev PrC : H → List Value → (List Value → Prop) → Prop := fun _ cs p => p cs
def Fr (ok : Nat → Prop) (h h' : H) : Prop := h.size ≤ h'.size ∧ ∀ c,c < h.size → ¬ ok c → hget h' c = hget h c
theorem Fr.refl (ok : Nat → Prop) (h : H) : Fr ok h h := ⟨Nat.le_refl _,fun _ _ _ => rfl⟩
theorem Fr.get {ok : Nat → Prop} {h h' : H} (k : Fr ok h h') {c : Nat} {x : Blk} (e : hget h c = some x) (hn : ¬ ok c) : hget h' c = some x := (k.2 c (lt_of_get e) hn).trans e
section
variable {α β : Type} {ok ok' : Nat → Prop} {w : Nat} {R R2 : H → List Value → α → Prop} {R' : H → List Value → β → Prop} {h h' : H} {v : Value} {xs : List α} {κ κ' : Kp} {S : Col → Prop} {col : Col}
theorem Bld.to' {ys : List β} (s : Bld ok w R h v xs) (hz : h.size ≤ h'.size) (hl : ys.length = xs.length) (hok : ∀ c,c < h.size → ok c → ok' c) (hg : ∀ c x,hget h c = some x → ok c → hget h' c = some x)
  (hR : ∀ cs (i : Nat) x y,xs[i]? = some x → ys[i]? = some y → R h cs x → R' h' cs y) : Bld ok' w R' h' v ys := by
 rcases s with ⟨e,e'⟩ | ⟨b,cs,an,e,⟨hk,ha⟩,hb,hcl,hi⟩
 ·subst e'
  exact .inl ⟨e,List.length_eq_zero_iff.1 hl⟩
 ·have hs := lt_of_get hb
  refine .inr ⟨b,cs,an,by rw [hl];exact e,⟨hok b hs hk,fun a q => ⟨hok a (Nat.lt_trans (ha a q).2 hs) (ha a q).1,(ha a q).2⟩⟩,hg b _ hb hk,by rw [hl];exact hcl,fun i y hy => ?_⟩
  have hi' := (List.getElem?_eq_some_iff.1 hy).1
  obtain ⟨x,hx⟩ : ∃ x,xs[i]? = some x := ⟨_,List.getElem?_eq_getElem (by omega)⟩
  exact hR _ i x y hx hy (hi i x hx)
theorem Bld.tr (s : Bld (fun c => κ c = col) w R h v xs) (k : Ch κ S h h') (hS : ¬ S col) (hk : Agr h.size κ κ')
  (hR : ∀ cs (i : Nat) x,xs[i]? = some x → R h cs x → R2 h' cs x) : Bld (fun c => κ' c = col) w R2 h' v xs :=
 s.to' k.1 rfl (fun c hc q => (hk c hc).trans q) (fun c x e q => k.get e (by rw [q];exact hS)) (fun cs i x y hx hy q => by rw [hx] at hy;cases hy;exact hR cs i x hx q)
theorem SlR.trC {R2 : H → List Value → α → Prop} (s : SlR (fun c => κ c = col) w R h v xs) (k : Ch κ S h h') (hS : ¬ S col) (hk : Agr h.size κ κ') (hR : ∀ cs,∀ x ∈ xs,R h cs x → R2 h' cs x) : SlR (fun c => κ' c = col) w R2 h' v xs :=
 s.imp (fun c hc q => (hk c hc).trans q) hR (fun c cs q e => k.cel e (by rw [q];exact hS))
theorem Bld.appF {bytes : Nat} (s : Bld ok w R h v xs) {new : List Value} {ys : List α} (hn : new.length = ys.length * w) (hb : (xs.length + ys.length) * bytes ≤ 2 ^ 47)
  (hok : ok h.size) (hR : ∀ h',Fr ok h h' → ∀ cs (i : Nat) y,xs[i]? = some y → R h cs y → R2 h' cs y) (hx : ∀ h',Fr ok h h' → ∀ (i : Nat) (y : α),ys[i]? = some y → R2 h' ((new.drop (i * w)).take w) y) :
  Ans (appendTo h w bytes v ys.length new) fun v' h' => Bld ok w R2 h' v' (xs ++ ys) ∧ Fr ok h h' ∧ KeptC h h' [] := by
 by_cases hz : ys.length = 0
 ·have hys : ys = [] := List.length_eq_zero_iff.1 hz
  subst hys
  have e : appendTo h w bytes v 0 new = some (v,h) := by
   rcases s with ⟨rfl,rfl⟩ | ⟨b,cs,an,rfl,_⟩ <;> simp [appendTo]
  exact ⟨v,h,e,by simpa using s.to' (Nat.le_refl _) rfl (fun _ _ q => q) (fun _ _ e _ => e) (fun cs i x y hx hy q => by rw [hx] at hy;cases hy;exact hR h (Fr.refl _ _) cs i x hx q),Fr.refl _ _,KeptC.refl _ _⟩
 rcases s with ⟨rfl,rfl⟩ | ⟨b,cs,an,rfl,⟨hk,ha⟩,hg,hl,hi⟩
 ·have kc : KeptC h (newRow h new w []) [] := ⟨by simp,fun c hc _ => cel_congr (by simp [hc])⟩
  have fr : Fr ok h (newRow h new w []) := ⟨by simp,fun c hc _ => by simp [hc]⟩
  have hb' : ys.length * bytes ≤ 140737488355328 := by simpa using hb
  have hz' : ¬ ys = [] := fun e => hz (by rw [e];rfl)
  refine ⟨.slice (some ⟨h.size,0,none⟩) ys.length ys.length,newRow h new w [],?_,?_,fr,kc⟩
  ·simp [appendTo,hb',hz']
  ·exact .inr ⟨h.size,new,[],rfl,⟨hok,by simp⟩,by simp,by simpa using hn,fun i y hy => hx _ fr i y (by simpa using hy)⟩
 ·have hbs := lt_of_get hg
  have kc : KeptC h (newRow (h.setIfInBounds b (.cells cs w false an)) (cs ++ new) w (b :: an)) [] := by
   refine ⟨by simp,fun c hc _ => ?_⟩
   by_cases e : b = c
   ·subst e
    rw [cel_of hg]
    exact cel_of (es := w) (lv := false) (an := an) (by simp [hbs])
   ·exact cel_congr (by simp [hc,e])
  have fr : Fr ok h (newRow (h.setIfInBounds b (.cells cs w false an)) (cs ++ new) w (b :: an)) := ⟨by simp,fun c hc hn => by
   have e : ¬ b = c := fun e => hn (e ▸ hk)
   simp [hc,e]⟩
  have e2 : cs.take (xs.length * w) = cs := List.take_of_length_le (by omega)
  refine ⟨.slice (some ⟨h.size,0,none⟩) (xs.length + ys.length) (xs.length + ys.length),newRow (h.setIfInBounds b (.cells cs w false an)) (cs ++ new) w (b :: an),?_,?_,fr,kc⟩
  ·have hb' : (xs.length + ys.length) * bytes ≤ 140737488355328 := by simpa using hb
   have hz' : ¬ ys = [] := fun e => hz (by rw [e];rfl)
   have hnl : ¬ xs.length + ys.length ≤ xs.length := by omega
   simp [appendTo,hb',hg,hl,e2,hnl,hz']
  ·refine .inr ⟨h.size,cs ++ new,b :: an,by simp,⟨hok,?_⟩,by simp,by simp [hl,hn,Nat.add_mul],?_⟩
   ·intro a q
    rcases List.mem_cons.1 q with rfl | q
    ·exact ⟨hk,hbs⟩
    ·exact ⟨(ha a q).1,Nat.lt_trans (ha a q).2 hbs⟩
   ·intro i y hy
    by_cases hi' : i < xs.length
    ·rw [List.getElem?_append_left hi'] at hy
     rw [drop_take_append cs new xs.length w i hl hi']
     exact hR _ fr _ i _ hy (hi i y hy)
    ·rw [List.getElem?_append_right (by omega)] at hy
     have := take_in_end cs new xs.length w (i - xs.length) hl
     rw [show xs.length + (i - xs.length) = i by omega] at this
     rw [this]
     exact hx _ fr _ _ hy
theorem Bld.appC {bytes : Nat} (s : Bld (fun c => κ c = col) w R h v xs) {new : List Value} (x : α) (hw : new.length = w) (hb : (xs.length + 1) * bytes ≤ 2 ^ 47)
  (hR : ∀ h',Ch κ (· = col) h h' → ∀ cs (i : Nat) y,xs[i]? = some y → R h cs y → R2 h' cs y) (hx : ∀ h',Ch κ (· = col) h h' → R2 h' new x) :
  Ans (appendTo (newRow h new w []) w bytes v 1 new) fun v' h' => Bld (fun c => ext κ h.size col c = col) w R2 h' v' (xs ++ [x]) ∧ Ch κ (· = col) h h' ∧ KeptC h h' [] := by
 have k := rowKept h new w []
 have z : (newRow h new w []).size = h.size + 1 := by simp
 have go : ∀ h',Fr (fun c => ext κ h.size col c = col) (newRow h new w []) h' → Ch κ (· = col) h h' := fun h' f => ⟨by have := f.1;omega,fun c hc hn => (f.2 c (by omega) (by show ¬ ext κ h.size col c = col;rw [ext_lt hc];exact hn)).trans (k.get hc (by simp))⟩
 have s1 : Bld (fun c => ext κ h.size col c = col) w (fun _ cs y => ∃ i : Nat,xs[i]? = some y ∧ R h cs y) (newRow h new w []) v xs := s.to' (by omega) rfl (fun c hc q => by rw [ext_lt hc];exact q) (fun c x e _ => (k.get (lt_of_get e) (by simp)).trans e) (fun cs i x y hx hy q => by rw [hx] at hy;cases hy;exact ⟨i,hx,q⟩)
 refine (s1.appF (R2 := R2) (ys := [x]) (bytes := bytes) (by simpa using hw) (by simpa using hb) (by rw [z];exact ext_ge (by omega)) (fun h' f cs i y hy ⟨j,hj,q⟩ => hR h' (go h' f) cs j y hj q) (fun h' f i y hy => ?_)).mono ?_
 ·cases i with
  | succ i => simp at hy
  | zero =>
   simp at hy
   subst hy
   rw [Nat.zero_mul,List.drop_zero,List.take_of_length_le (by omega)]
   exact hx h' (go h' f)
 ·rintro v' h' ⟨b5,f5,c5⟩
  exact ⟨b5,go h' f5,k.c.trans c5⟩
theorem splice_elem (cs new : List Value) {w n i j o : Nat} (hl : cs.length = n * w) (hi : i < n) (ho : o + new.length ≤ w) (hj : j < n) :
  (((cs.take (i * w + o) ++ new ++ cs.drop (i * w + o + new.length)).drop (j * w)).take w) = if j = i then ((cs.drop (i * w)).take w).take o ++ new ++ ((cs.drop (i * w)).take w).drop (o + new.length) else (cs.drop (j * w)).take w := by
 have h1 : (i + 1) * w ≤ n * w := Nat.mul_le_mul_right _ hi
 have h2 : (j + 1) * w ≤ n * w := Nat.mul_le_mul_right _ hj
 rw [Nat.add_mul] at h1 h2
 have hle : i * w + o + new.length ≤ cs.length := by omega
 have hel : ((cs.drop (i * w)).take w).length = w := by rw [List.length_take,List.length_drop];omega
 apply List.ext_getElem?
 intro t
 by_cases ht : t < w
 ·rw [List.getElem?_take,if_pos ht,List.getElem?_drop,splice_get cs new _ _ hle]
  by_cases e : j = i
  ·subst e
   rw [if_pos rfl]
   have := splice_get ((cs.drop (j * w)).take w) new o t (by omega)
   rw [this]
   by_cases c1 : t < o
   ·rw [if_pos (by omega),if_pos c1,List.getElem?_take,if_pos ht,List.getElem?_drop]
   ·rw [if_neg (by omega),if_neg c1]
    by_cases c2 : t < o + new.length
    ·rw [if_pos (by omega),if_pos c2];congr 1;omega
    ·rw [if_neg (by omega),if_neg c2,List.getElem?_take,if_pos ht,List.getElem?_drop]
  ·rw [if_neg e,List.getElem?_take,if_pos ht,List.getElem?_drop]
   rcases Nat.lt_or_gt_of_ne e with c | c
   ·have : (j + 1) * w ≤ i * w := Nat.mul_le_mul_right _ c
    rw [Nat.add_mul] at this
    rw [if_pos (by omega)]
   ·have : (i + 1) * w ≤ j * w := Nat.mul_le_mul_right _ c
    rw [Nat.add_mul] at this
    rw [if_neg (by omega),if_neg (by omega)]
 ·rw [List.getElem?_eq_none (by rw [List.length_take];omega)]
  split
  ·rw [List.getElem?_eq_none (by simp [hel];omega)]
  ·rw [List.getElem?_eq_none (by rw [List.length_take];omega)]
theorem Bld.put (s : Bld ok w R h v xs) {i o : Nat} {x : α} (hx : xs[i]? = some x) {new : List Value} (ho : o + new.length ≤ w) (hone : new.all oneCell = true) :
  ∃ b cs an h',v = .slice (some ⟨b,0,none⟩) xs.length xs.length ∧ hget h b = some (.cells cs w true an) ∧ i * w + w ≤ cs.length ∧ ok b ∧ R h ((cs.drop (i * w)).take w) x ∧ wr h b (i * w + o) new = some h' ∧ h'.size = h.size ∧ Fr ok h h' ∧
   ∀ {R2 : H → List Value → α → Prop} (y : α),(∀ cs (j : Nat) z,xs[j]? = some z → j ≠ i → R h cs z → R2 h' cs z) → (R2 h' (((cs.drop (i * w)).take w).take o ++ new ++ ((cs.drop (i * w)).take w).drop (o + new.length)) y) → Bld ok w R2 h' v (xs.set i y) := by
 have hil := (List.getElem?_eq_some_iff.1 hx).1
 rcases s with ⟨_,e'⟩ | ⟨b,cs,an,e,⟨hk,ha⟩,hg,hl,hi⟩
 ·subst e';simp at hil
 ·have h1 : (i + 1) * w ≤ xs.length * w := Nat.mul_le_mul_right _ hil
  rw [Nat.add_mul] at h1
  have hbs := lt_of_get hg
  have hg' : h[b]? = some (.cells cs w true an) := hg
  have hle : i * w + o + new.length ≤ cs.length := by omega
  have hkz : (kill h an).size = h.size := kill_size _ _
  refine ⟨b,cs,an,(kill h an).setIfInBounds b (.cells (cs.take (i * w + o) ++ new ++ cs.drop (i * w + o + new.length)) w true []),e,hg,by omega,hk,hi i x hx,?_,by simp [hkz],⟨by simp [hkz],?_⟩,?_⟩
  ·unfold wr
   rw [hg']
   simp only [hle,hone,and_self,if_true]
  ·intro c hc hn
   have e1 : ¬ b = c := fun q => hn (q ▸ hk)
   have e2 : c ∉ an := fun q => hn (ha c q).1
   rw [set_other e1]
   show (kill h an)[c]? = h[c]?
   rw [kill_get,if_neg (fun q => e2 q.1)]
  ·intro R2 y hR hy
   have e3 : hget ((kill h an).setIfInBounds b (.cells (cs.take (i * w + o) ++ new ++ cs.drop (i * w + o + new.length)) w true [])) b = some (.cells (cs.take (i * w + o) ++ new ++ cs.drop (i * w + o + new.length)) w true []) := set_self rfl (by rw [hkz];exact hbs)
   refine .inr ⟨b,_,[],by rw [List.length_set];exact e,⟨hk,by simp⟩,e3,?_,?_⟩
   ·rw [List.length_set,← hl]
    simp
    omega
   ·intro j z hz
    have hjl := (List.getElem?_eq_some_iff.1 hz).1
    rw [List.length_set] at hjl
    rw [splice_elem cs new hl hil ho hjl]
    by_cases ej : j = i
    ·subst ej
     rw [List.getElem?_set_self hil] at hz
     cases hz
     rw [if_pos rfl]
     exact hy
    ·rw [List.getElem?_set_ne (fun q => ej q.symm)] at hz
     rw [if_neg ej]
     exact hR _ j z hz ej (hi j z hz)
end
end Go.Ev
section
set_option maxRecDepth 100000
namespace Go.Ev
variable {α β : Type} {ok ok' : Nat → Prop} {w : Nat} {R R2 : H → List Value → α → Prop} {R' : H → List Value → β → Prop} {h h' : H} {v : Value} {xs : List α} {κ κ' : Kp} {S : Col → Prop} {col : Col}
theorem Bld.appCs {bytes : Nat} (s : Bld (fun c => κ c = col) w R h v xs) {new : List Value} (ys : List α) (hw : new.length = ys.length * w) (hb : (xs.length + ys.length) * bytes ≤ 2 ^ 47)
  (hR : ∀ h',Ch κ (· = col) h h' → KeptC h h' [] → ∀ cs (i : Nat) y,xs[i]? = some y → R h cs y → R2 h' cs y) (hx : ∀ h',Ch κ (· = col) h h' → KeptC h h' [] → ∀ (i : Nat) (y : α),ys[i]? = some y → R2 h' ((new.drop (i * w)).take w) y) :
  Ans (appendTo (newRow h new w []) w bytes v ys.length new) fun v' h' => Bld (fun c => ext κ h.size col c = col) w R2 h' v' (xs ++ ys) ∧ Ch κ (· = col) h h' ∧ KeptC h h' [] := by
 have k := rowKept h new w []
 have z : (newRow h new w []).size = h.size + 1 := by simp
 have go : ∀ h',Fr (fun c => ext κ h.size col c = col) (newRow h new w []) h' → Ch κ (· = col) h h' := fun h' f => ⟨by have := f.1;omega,fun c hc hn => (f.2 c (by omega) (by show ¬ ext κ h.size col c = col;rw [ext_lt hc];exact hn)).trans (k.get hc (by simp))⟩
 have s1 : Bld (fun c => ext κ h.size col c = col) w (fun _ cs y => ∃ i : Nat,xs[i]? = some y ∧ R h cs y) (newRow h new w []) v xs := s.to' (by omega) rfl (fun c hc q => by rw [ext_lt hc];exact q) (fun c x e _ => (k.get (lt_of_get e) (by simp)).trans e) (fun cs i x y hx hy q => by rw [hx] at hy;cases hy;exact ⟨i,hx,q⟩)
 obtain ⟨v1,g1,e1,b1,f1,c1⟩ := (s1.appF (R2 := fun _ _ _ => True) (ys := ys) (bytes := bytes) hw hb (by show ext κ h.size col _ = col;rw [z];exact ext_ge (by omega)) (fun _ _ _ _ _ _ _ => trivial) (fun _ _ _ _ _ => trivial))
 obtain ⟨v2,g2,e2,b2,f2,c2⟩ := (s1.appF (R2 := fun g cs y => g = g1 → R2 g cs y) (ys := ys) (bytes := bytes) hw hb (by show ext κ h.size col _ = col;rw [z];exact ext_ge (by omega)) (fun h' f cs i y hy ⟨j,hj,q⟩ e => by subst e;exact hR h' (go h' f) (k.c.trans c1) cs j y hj q) (fun h' f i y hy e => by subst e;exact hx h' (go h' f) (k.c.trans c1) i y hy))
 rw [e1] at e2
 injection e2 with e2
 injection e2 with e2 e3
 subst e2 e3
 exact ⟨v1,g1,e1,b2.to' (Nat.le_refl _) rfl (fun _ _ q => q) (fun _ _ e _ => e) (fun cs i x y hx hy q => by rw [hx] at hy;cases hy;exact q rfl),go g1 f1,k.c.trans c1⟩
theorem Bld.toAt {ys : List β} (s : Bld ok w R h v xs) {b : Nat} {cs : List Value} {es : Nat} {lv : Bool} {an : List Nat} {n c : Nat} (hv : v = .slice (some ⟨b,0,none⟩) n c) (hb : hget h b = some (.cells cs es lv an)) (hg : ok b → hget h' b = hget h b) (hl : ys.length = xs.length)
  (hR : ∀ (j : Nat) x y,xs[j]? = some x → ys[j]? = some y → R h ((cs.drop (j * w)).take w) x → R' h' ((cs.drop (j * w)).take w) y) : Bld ok w R' h' v ys := by
 rcases s with ⟨e,e'⟩ | ⟨b',cs',an',e,hk,hg',hcl,hi⟩
 ·subst e'
  exact .inl ⟨e,List.length_eq_zero_iff.1 hl⟩
 ·rw [hv] at e
  injection e with f1 f2 f3
  injection f1 with f1
  injection f1 with f1
  subst f1
  rw [hg'] at hb
  injection hb with hb
  injection hb with g1 g2 g3 g4
  subst g1 g2 g3 g4
  refine .inr ⟨b,cs',an',by rw [hv,hl,f2,f3],hk,(hg hk.1).trans hg',by rw [hl];exact hcl,fun j y hy => ?_⟩
  have hj := (List.getElem?_eq_some_iff.1 hy).1
  obtain ⟨x,hx⟩ : ∃ x,xs[j]? = some x := ⟨_,List.getElem?_eq_getElem (by omega)⟩
  exact hR j x y hx hy (hi j x hx)
end Go.Ev
namespace Go.Proofs.YtnoghchcboiojaaGreatDoor
open Go.Ev
open Go.Rn (Bs Ru St)
variable {h : H}
def cOp (i k : Nat) : Nat := 1000 * (i + 1) + k
def cSt (i : Nat) : Nat := 1000 * (i + 1) + 500
def ElK (κ : Kp) (i : Nat) (h : H) (cs : List Value) (x : St × Nat) : Prop := ∃ ov,cs = stC x.1 ov ∧ Bld (fun c => κ c = cOp i x.2) 5 OpR h ov x.1.ops
def zipI {α : Type} (l : List α) : List (α × Nat) := l.mapIdx fun k s => (s,k)
def LW (κ : Kp) (i : Nat) (h : H) (v : Value) (l : List St) : Prop := Bld (fun c => κ c = cSt i) 6 (ElK κ i) h v (zipI l)
def AllR (κ : Kp) (h : H) (cs : List Value) (x : List St × Nat) : Prop := ∃ v,cs = [v] ∧ LW κ x.2 h v x.1
def AW (κ : Kp) (h : H) (v : Value) (ll : List (List St)) : Prop := Bld (fun c => κ c = 1) 1 (AllR κ) h v (zipI ll)
theorem zipI_len {α : Type} (l : List α) : (zipI l).length = l.length := by simp [zipI]
theorem zipI_get {α : Type} (l : List α) (i : Nat) : (zipI l)[i]? = l[i]?.map fun s => (s,i) := by simp [zipI]
theorem zipI_at {α : Type} {l : List α} {i : Nat} {s : α} (hs : l[i]? = some s) : (zipI l)[i]? = some (s,i) := by rw [zipI_get,hs];rfl
theorem zipI_inv {α : Type} {l : List α} {i : Nat} {y : α × Nat} (hy : (zipI l)[i]? = some y) : l[i]? = some y.1 ∧ y.2 = i := by
 rw [zipI_get] at hy
 obtain ⟨z,hz,rfl⟩ := Option.map_eq_some_iff.1 hy
 exact ⟨hz,rfl⟩
theorem ElK.tr {κ κ' : Kp} {S : Col → Prop} {i : Nat} {g g' : H} {cs : List Value} {x : St × Nat} (s : ElK κ i g cs x) (k : Ch κ S g g') (hS : ¬ S (cOp i x.2)) (hk : Agr g.size κ κ') : ElK κ' i g' cs x := by
 obtain ⟨ov,e,q⟩ := s
 exact ⟨ov,e,q.tr k hS hk fun _ _ _ _ q => q⟩
theorem LW.tr {κ κ' : Kp} {S : Col → Prop} {i : Nat} {g g' : H} {v : Value} {l : List St} (s : LW κ i g v l) (k : Ch κ S g g') (h1 : ¬ S (cSt i)) (h2 : ∀ k,k < l.length → ¬ S (cOp i k)) (hk : Agr g.size κ κ') : LW κ' i g' v l :=
 Bld.tr s k h1 hk fun cs j x hx q => q.tr k (by rw [(zipI_inv hx).2];exact h2 j (List.getElem?_eq_some_iff.1 (zipI_inv hx).1).1) hk
theorem AW.tr {κ κ' : Kp} {S : Col → Prop} {g g' : H} {v : Value} {ll : List (List St)} (s : AW κ g v ll) (k : Ch κ S g g') (h1 : ¬ S 1) (h2 : ∀ (i : Nat) l,ll[i]? = some l → ¬ S (cSt i) ∧ ∀ k,k < l.length → ¬ S (cOp i k)) (hk : Agr g.size κ κ') : AW κ' g' v ll :=
 Bld.tr s k h1 hk fun cs j x hx q => by
  obtain ⟨v,e,q⟩ := q
  obtain ⟨e1,e2⟩ := zipI_inv hx
  rw [e2] at q
  refine ⟨v,e,?_⟩
  rw [e2]
  exact LW.tr q k (h2 j _ e1).1 (h2 j _ e1).2 hk
theorem AW.kept {κ : Kp} {g g' : H} {v : Value} {ll : List (List St)} (s : AW κ g v ll) (k : Kept g g' []) : AW κ g' v ll :=
 s.tr (Ch.of k (S := no)) (fun q => q) (fun _ _ _ => ⟨fun q => q,fun _ _ q => q⟩) (Agr.refl _ _)
theorem LW.kept {κ : Kp} {i : Nat} {g g' : H} {v : Value} {l : List St} (s : LW κ i g v l) (k : Kept g g' []) : LW κ i g' v l :=
 s.tr (Ch.of k (S := no)) (fun q => q) (fun _ _ q => q) (Agr.refl _ _)
def colr (κ : Kp) (lo i : Nat) (xs : List Stp) : Kp := fun c => if c < lo then κ c else match xs.findIdx? (fun x => decide (x.2.1 ≤ c ∧ c < x.2.2)) with
 | some k => cOp i k
 | none => cSt i
theorem colr_agr (κ : Kp) (lo i : Nat) (xs : List Stp) : Agr lo κ (colr κ lo i xs) := fun c hc => by simp [colr,hc]
theorem StepsAt.lw {lo i : Nat} {κ : Kp} {sv : Value} {xs : List Stp} (s : StepsAt lo h sv xs) : LW (colr κ lo i xs) i h sv (xs.map fun x => x.1) := by
 obtain ⟨s1,s2,s3⟩ := s
 refine s1.to' (Nat.le_refl _) (by rw [zipI_len,List.length_map]) (fun c _ q => ?_) (fun _ _ e _ => e) (fun cs j x y hx hy q => ?_)
 ·have hn : ¬ c < lo := by have := q.1;omega
  have hf : xs.findIdx? (fun x => decide (x.2.1 ≤ c ∧ c < x.2.2)) = none := by
   rw [List.findIdx?_eq_none_iff]
   intro x hx
   exact decide_eq_false (q.2 x hx)
  simp only [colr,if_neg hn,hf]
 ·obtain ⟨e1,e2⟩ := zipI_inv hy
  rw [List.getElem?_map,hx] at e1
  obtain ⟨ov,e,b⟩ := q
  have e1' : x.1 = y.1 := Option.some.inj e1
  obtain ⟨y1,y2⟩ := y
  have e2' : j = y2 := e2.symm
  have e1'' : x.1 = y1 := e1'
  subst e1''
  subst e2'
  refine ⟨ov,e,?_⟩
  refine b.imp fun c _ hc => ?_
  have hj := List.getElem?_eq_some_iff.1 hx
  have hj0 := hj.1
  have hxl := s2 x (List.mem_of_getElem? hx)
  have hn : ¬ c < lo := by omega
  have hf : xs.findIdx? (fun x => decide (x.2.1 ≤ c ∧ c < x.2.2)) = some j := by
   rw [List.findIdx?_eq_some_iff_getElem]
   refine ⟨hj.1,by rw [hj.2];exact decide_eq_true hc,fun j' hj' => ?_⟩
   have := List.pairwise_iff_getElem.1 s3 j' j (by omega) hj.1 hj'
   rw [hj.2] at this
   simp only [decide_eq_true_eq]
   omega
  simp only [colr,if_neg hn,hf]
def AsR (h : H) (cs : List Value) (l : List St) : Prop := ∃ v,cs = [v] ∧ SlR (fun _ => True) 6 StE h v l
def AS (h : H) (v : Value) (ll : List (List St)) : Prop := SlR (fun _ => True) 1 AsR h v ll
theorem StE.kc {g g' : H} {cs : List Value} {s : St} (q : StE g cs s) (k : KeptC g g' []) : StE g' cs s := by
 obtain ⟨ov,ok,e,s⟩ := q
 exact ⟨ov,ok,e,s.kc k (by simp) fun _ _ _ q => q⟩
theorem AsR.kc {g g' : H} {cs : List Value} {l : List St} (q : AsR g cs l) (k : KeptC g g' []) : AsR g' cs l := by
 obtain ⟨v,e,s⟩ := q
 exact ⟨v,e,s.kc k (by simp) fun _ _ _ q => q.kc k⟩
theorem AS.kc {g g' : H} {v : Value} {ll : List (List St)} (q : AS g v ll) (k : KeptC g g' []) : AS g' v ll :=
 SlR.kc q k (by simp) fun _ _ _ q => q.kc k
theorem zip_sl {α : Type} {ok : Nat → Prop} {w : Nat} {R : H → List Value → (α × Nat) → Prop} {R' : H → List Value → α → Prop} {v : Value} {xs : List α} (s : SlR ok w R h v (zipI xs)) (hR : ∀ cs (i : Nat) x,xs[i]? = some x → R h cs (x,i) → R' h cs x) : SlR (fun _ => True) w R' h v xs := by
 rcases s with ⟨e,e'⟩ | ⟨b,o,c,cs,e,hc,hk,hb,hi⟩
 ·exact .inl ⟨e,by rw [← List.length_eq_zero_iff,← zipI_len,e'];rfl⟩
 ·rw [zipI_len] at e hc
  exact .inr ⟨b,o,c,cs,e,hc,trivial,hb,fun i x hx => ⟨(hi i _ (zipI_at hx)).1,hR _ i x hx (hi i _ (zipI_at hx)).2⟩⟩
theorem LW.sl {κ : Kp} {i : Nat} {v : Value} {l : List St} (s : LW κ i h v l) : SlR (fun _ => True) 6 StE h v l :=
 zip_sl (Bld.sl s) fun cs k x hx q => by
  obtain ⟨ov,e,q⟩ := q
  exact ⟨ov,_,e,q.sl⟩
theorem AW.as {κ : Kp} {v : Value} {ll : List (List St)} (s : AW κ h v ll) : AS h v ll :=
 zip_sl (Bld.sl s) fun cs k x hx q => by
  obtain ⟨v,e,q⟩ := q
  exact ⟨v,e,LW.sl q⟩
end Go.Proofs.YtnoghchcboiojaaGreatDoor
end
section
set_option maxRecDepth 100000
namespace Go.Ev
def tk {α : Type} (f : Nat → α → α) (n : Nat) (l : List α) : List α := (l.take n).mapIdx f ++ l.drop n
variable {α : Type} {f : Nat → α → α} {n : Nat} {l : List α} {x : α}
theorem tk_zero : tk f 0 l = l := by simp [tk]
theorem tk_all : tk f l.length l = l.mapIdx f := by simp [tk]
theorem tk_len : (tk f n l).length = l.length := by
 unfold tk
 rw [List.length_append,List.length_mapIdx,List.length_take,List.length_drop];omega
theorem tk_get (hx : l[n]? = some x) : (tk f n l)[n]? = some x := by
 have h1 := (List.getElem?_eq_some_iff.1 hx).1
 have h2 : ((l.take n).mapIdx f).length = n := by rw [List.length_mapIdx,List.length_take];omega
 unfold tk
 rw [List.getElem?_append_right (by omega),h2,Nat.sub_self,List.getElem?_drop]
 exact hx
theorem tk_set (hx : l[n]? = some x) : (tk f n l).set n (f n x) = tk f (n + 1) l := by
 have h1 := (List.getElem?_eq_some_iff.1 hx).1
 have h2 : ((l.take n).mapIdx f).length = n := by rw [List.length_mapIdx,List.length_take];omega
 have hd : l.drop n = x :: l.drop (n + 1) := by
  rw [List.drop_eq_getElem_cons h1]
  rw [List.getElem?_eq_getElem h1] at hx
  rw [Option.some.inj hx]
 have h3 : (l.take n).length = n := by rw [List.length_take];omega
 unfold tk
 rw [List.set_append,if_neg (by omega),h2,Nat.sub_self,List.take_add_one,hx,hd,List.mapIdx_append]
 simp [h3]
theorem set_self'' {k : Nat} (hx : l[k]? = some x) : l.set k x = l := by
 apply List.ext_getElem?
 intro j
 by_cases hj : j = k
 ·subst hj
  rw [List.getElem?_set_self (List.getElem?_eq_some_iff.1 hx).1,hx]
 ·rw [List.getElem?_set_ne (fun e => hj e.symm)]
end Go.Ev
namespace Go.Proofs.YtnoghchcboiojaaGreatDoor
open Go.Ev
open Go.Rn (Bs Ru St)
variable {p : Bool} {F : Nat} {h : H}
theorem zipI_set {α : Type} (l : List α) (i : Nat) (x : α) : zipI (l.set i x) = (zipI l).set i (x,i) := by
 apply List.ext_getElem?
 intro j
 rw [zipI_get,List.getElem?_set,List.getElem?_set,zipI_len,zipI_get]
 split
 ·rename_i e
  subst e
  split <;> rfl
 ·rfl
theorem nSO {i k : Nat} (hk : k < 400) : ¬ (cSt i = cOp i k) := by unfold cSt cOp;omega
theorem nOS {i k : Nat} (hk : k < 400) : ¬ (cOp i k = cSt i) := by unfold cSt cOp;omega
theorem nOO {i k j : Nat} (hk : ¬ j = k) : ¬ (cOp i j = cOp i k) := by unfold cOp;omega
theorem AW.lst {κ : Kp} {g : H} {v : Value} {ll : List (List St)} (s : AW κ g v ll) {i : Nat} {l : List St} (hl : ll[i]? = some l) :
  ∃ b cs an v1,v = .slice (some ⟨b,0,none⟩) ll.length ll.length ∧ κ b = 1 ∧ hget g b = some (.cells cs 1 true an) ∧ i + 1 ≤ cs.length ∧ (cs.drop i).take 1 = [v1] ∧ LW κ i g v1 l := by
 have hi := (List.getElem?_eq_some_iff.1 hl).1
 rcases s with ⟨_,e⟩ | ⟨b,cs,an,e,hk,hg,hcl,hr⟩
 ·rw [← List.length_eq_zero_iff,zipI_len] at e;omega
 ·rw [zipI_len] at e hcl
  obtain ⟨v1,e1,q⟩ := hr i _ (zipI_at hl)
  rw [Nat.mul_one] at e1
  exact ⟨b,cs,an,v1,e,hk.1,hg,by omega,e1,q⟩
theorem LW.stp {κ : Kp} {g : H} {i : Nat} {v : Value} {l : List St} (s : LW κ i g v l) {k : Nat} {x : St} (hx : l[k]? = some x) :
  ∃ b cs an ov,v = .slice (some ⟨b,0,none⟩) l.length l.length ∧ κ b = cSt i ∧ hget g b = some (.cells cs 6 true an) ∧ k * 6 + 6 ≤ cs.length ∧ (cs.drop (k * 6)).take 6 = stC x ov ∧ (cs.drop (k * 6 + 5)).take 1 = [ov] ∧ Bld (fun c => κ c = cOp i k) 5 OpR g ov x.ops := by
 have hi := (List.getElem?_eq_some_iff.1 hx).1
 rcases s with ⟨_,e⟩ | ⟨b,cs,an,e,hk,hg,hcl,hr⟩
 ·rw [← List.length_eq_zero_iff,zipI_len] at e;omega
 ·rw [zipI_len] at e hcl
  obtain ⟨ov,e1,q⟩ := hr k _ (zipI_at hx)
  have h6 : (k + 1) * 6 ≤ l.length * 6 := Nat.mul_le_mul_right _ hi
  exact ⟨b,cs,an,ov,e,hk.1,hg,by omega,e1,fld_of (k := 5) e1 rfl,q⟩
theorem LW.turn {κ : Kp} {g g' : H} {i : Nat} {v : Value} {l : List St} (s : LW κ i g v l) (hlen : l.length ≤ 400) {k : Nat} {x : St} (hx : l[k]? = some x) (hc : Ch κ (· = cOp i k) g g') {b : Nat} {cs : List Value} {es : Nat} {lv : Bool} {an : List Nat} {ov : Value} {n c : Nat} (hv : v = .slice (some ⟨b,0,none⟩) n c) (hκ : κ b = cSt i) (hb : hget g b = some (.cells cs es lv an)) (hov : (cs.drop (k * 6)).take 6 = stC x ov) {ops : List Rn.Op} (q : Bld (fun c => κ c = cOp i k) 5 OpR g' ov ops) : LW κ i g' v (l.set k { x with ops := ops }) := by
 have hk' := (List.getElem?_eq_some_iff.1 hx).1
 refine Bld.toAt s hv hb (fun _ => (hc.get hb (by rw [hκ];exact nSO (by omega))).trans hb.symm) (by rw [zipI_len,zipI_len,List.length_set]) fun j y z hy hz r => ?_
 rw [zipI_set] at hz
 by_cases hj : j = k
 ·subst hj
  rw [List.getElem?_set_self (by rw [zipI_len];exact hk')] at hz
  cases hz
  exact ⟨ov,by rw [hov];rfl,q⟩
 ·rw [List.getElem?_set_ne (fun e => hj e.symm),hy] at hz
  cases hz
  obtain ⟨y1,y2⟩ := zipI_inv hy
  have := (List.getElem?_eq_some_iff.1 y1).1
  exact r.tr hc (by rw [y2];exact nOO hj) (Agr.refl _ _)
theorem LW.op {κ : Kp} {g : H} {i : Nat} {v : Value} {l : List St} (s : LW κ i g v l) (hlen : l.length ≤ 400) {k j q : Nat} {x : St} {o o' : Rn.Op} {y : Value} (hx : l[k]? = some x) (ho : x.ops[j]? = some o) (hq : q < 5) (hone : oneCell y = true) (ho' : (opC o).take q ++ [y] ++ (opC o).drop (q + 1) = opC o') :
  ∃ b cs an b2 cs2 an2 g',v = .slice (some ⟨b,0,none⟩) l.length l.length ∧ hget g b = some (.cells cs 6 true an) ∧ k * 6 + 6 ≤ cs.length ∧ (cs.drop (k * 6 + 5)).take 1 = [.slice (some ⟨b2,0,none⟩) x.ops.length x.ops.length] ∧
   hget g b2 = some (.cells cs2 5 true an2) ∧ j * 5 + 5 ≤ cs2.length ∧ wr g b2 (j * 5 + q) [y] = some g' ∧ g'.size = g.size ∧ Ch κ (· = cOp i k) g g' ∧ LW κ i g' v (l.set k { x with ops := x.ops.set j o' }) := by
 obtain ⟨b,cs,an,ov,e1,e2,e3,e4,e5,e6,e7⟩ := s.stp hx
 obtain ⟨b2,cs2,an2,g',f1,f2,f3,f4,f5,f6,f7,f8,f9⟩ := e7.put (i := j) (o := q) ho (new := [y]) (by rw [List.length_singleton];omega) (by simpa using hone)
 have hc : Ch κ (· = cOp i k) g g' := ⟨by omega,f8.2⟩
 have := f9 (R2 := OpR) o' (fun _ _ _ _ _ q => q) (by
  rw [show (cs2.drop (j * 5)).take 5 = opC o from f5]
  exact ho')
 exact ⟨b,cs,an,b2,cs2,an2,g',e1,e3,e4,by rw [e6,f1],f2,f3,f6,f7,hc,s.turn hlen hx hc e1 e2 e3 e5 this⟩
theorem LW.putC {κ : Kp} {g : H} {i : Nat} {v : Value} {l : List St} (s : LW κ i g v l) (hlen : l.length ≤ 400) {k : Nat} {x : St} (hx : l[k]? = some x) (n : Int) :
  ∃ b cs an g',v = .slice (some ⟨b,0,none⟩) l.length l.length ∧ hget g b = some (.cells cs 6 true an) ∧ k * 6 + 6 ≤ cs.length ∧ wr g b (k * 6 + 3) [vi n] = some g' ∧ g'.size = g.size ∧ Ch κ (· = cSt i) g g' ∧ LW κ i g' v (l.set k { x with c := n }) := by
 have hk' := (List.getElem?_eq_some_iff.1 hx).1
 obtain ⟨b,cs,an,g',f1,f2,f3,f4,f5,f6,f7,f8,f9⟩ := Bld.put s (i := k) (o := 3) (zipI_at hx) (new := [vi n]) (by rw [List.length_singleton];omega) rfl
 rw [zipI_len] at f1
 have hc : Ch κ (· = cSt i) g g' := ⟨by omega,f8.2⟩
 refine ⟨b,cs,an,g',f1,f2,f3,f6,f7,hc,?_⟩
 show Bld _ 6 _ g' v (zipI (l.set k { x with c := n }))
 rw [zipI_set]
 obtain ⟨ov,e,q⟩ := f5
 refine f9 _ (fun cs j z hz hj r => r.tr hc ?_ (Agr.refl _ _)) ⟨ov,?_,q.tr hc ?_ (Agr.refl _ _) fun _ _ _ _ q => q⟩
 ·obtain ⟨z1,z2⟩ := zipI_inv hz
  have := (List.getElem?_eq_some_iff.1 z1).1
  rw [z2]
  exact nOS (by omega)
 ·rw [e];rfl
 ·exact nOS (by omega)
theorem AW.turn {κ : Kp} {S : Col → Prop} {g g' : H} {v v1 : Value} {ll : List (List St)} (s : AW κ g v ll) (hlen : ∀ l ∈ ll,l.length ≤ 400) {i : Nat} {l l' : List St} (hl : ll[i]? = some l) (hc : Ch κ S g g') (hS1 : ¬ S 1) (hS : ∀ i',i' ≠ i → ¬ S (cSt i') ∧ ∀ k,k < 400 → ¬ S (cOp i' k))
  {b : Nat} {cs : List Value} {es : Nat} {lv : Bool} {an : List Nat} {n c : Nat} (hv : v = .slice (some ⟨b,0,none⟩) n c) (hκ : κ b = 1) (hb : hget g b = some (.cells cs es lv an)) (h1 : (cs.drop i).take 1 = [v1]) (q : LW κ i g' v1 l') : AW κ g' v (ll.set i l') := by
 have hi := (List.getElem?_eq_some_iff.1 hl).1
 refine Bld.toAt s hv hb (fun _ => (hc.get hb (by rw [hκ];exact hS1)).trans hb.symm) (by rw [zipI_len,zipI_len,List.length_set]) fun j y z hy hz r => ?_
 rw [zipI_set] at hz
 by_cases hj : j = i
 ·subst hj
  rw [List.getElem?_set_self (by rw [zipI_len];exact hi)] at hz
  cases hz
  exact ⟨v1,by rw [Nat.mul_one];exact h1,q⟩
 ·rw [List.getElem?_set_ne (fun e => hj e.symm),hy] at hz
  cases hz
  obtain ⟨y1,y2⟩ := zipI_inv hy
  obtain ⟨w,e,r⟩ := r
  rw [y2] at r
  refine ⟨w,e,?_⟩
  rw [y2]
  exact LW.tr r hc (hS j hj).1 (fun k hk => (hS j hj).2 k (by have := hlen _ (List.mem_of_getElem? y1);omega)) (Agr.refl _ _)
theorem sOp_ok {i k : Nat} (hk : k < 400) : ¬ ((fun c : Col => c = cOp i k) 1) ∧ ∀ i',i' ≠ i → ¬ ((fun c : Col => c = cOp i k) (cSt i')) ∧ ∀ k',k' < 400 → ¬ ((fun c : Col => c = cOp i k) (cOp i' k')) := by
 refine ⟨?_,fun i' hi => ⟨?_,fun k' hk' => ?_⟩⟩
 ·show ¬ (1 = cOp i k);unfold cOp;omega
 ·show ¬ (cSt i' = cOp i k);unfold cSt cOp;omega
 ·show ¬ (cOp i' k' = cOp i k);unfold cOp;omega
theorem sSt_ok {i : Nat} : ¬ ((fun c : Col => c = cSt i) 1) ∧ ∀ i',i' ≠ i → ¬ ((fun c : Col => c = cSt i) (cSt i')) ∧ ∀ k',k' < 400 → ¬ ((fun c : Col => c = cSt i) (cOp i' k')) := by
 refine ⟨?_,fun i' hi => ⟨?_,fun k' hk' => ?_⟩⟩
 ·show ¬ (1 = cSt i);unfold cSt;omega
 ·show ¬ (cSt i' = cSt i);unfold cSt;omega
 ·show ¬ (cOp i' k' = cSt i);unfold cOp cSt;omega
end Go.Proofs.YtnoghchcboiojaaGreatDoor
end
section
set_option maxRecDepth 100000
namespace Go.Proofs.YtnoghchcboiojaaGreatDoor
open Go.Ev
open Go.Rn (Bs Ru St)
variable {p : Bool} {F : Nat} {h : H}
def fOp (i k : Nat) (_ : Nat) (o : Rn.Op) : Rn.Op := { o with kind := ((cOp i k : Nat) : Int) }
def fSt (i k : Nat) (s : St) : St := { s with c := (100 + (i : Int)),ops := s.ops.mapIdx (fOp i k) }
def fLs (i : Nat) (l : List St) : List St := l.mapIdx (fSt i)
def kOps : ACode := (.seq (.region r8_28 [0,6,13,25,26,27]) (.block 8 (.loop [0,6,13,25,26,27] l8_32)))
def kSts : ACode := (.seq (.region r8_26 [0,6,13,25,26]) (.block 6 (.loop [0,6,13,25,26] l8_35)))
def kAll : ACode := (.seq (.region r8_24 [0,6,13,25]) (.block 4 (.loop [0,6,13,25] l8_37)))
theorem l8_35s : l8_35 = (.seq (.seq (.region r8_27 [0,6,13,25,26,118]) (.cond (.tmp 118) .skip (.exit 6))) (.seq (.block 7 (.seq kOps (.region r8_33 [0,6,13,25,26]))) (.region r8_34 [0,6,13,25,26]))) := rfl
theorem l8_37s : l8_37 = (.seq (.seq (.region r8_25 [0,6,13,25,109]) (.cond (.tmp 109) .skip (.exit 4))) (.seq (.block 5 kSts) (.region r8_36 [0,6,13,25]))) := rfl
theorem nlt_op {i k : Nat} : 1000 ≤ cOp i k := by unfold cOp;omega
theorem nlt_st {i : Nat} : 1000 ≤ cSt i := by unfold cSt;omega
theorem set_len400 {ll : List (List St)} (hlen : ∀ l ∈ ll,l.length ≤ 400) {i : Nat} {l' : List St} (hl : l'.length ≤ 400) : ∀ l ∈ ll.set i l',l.length ≤ 400 := fun l hm => by
 rcases List.mem_or_eq_of_mem_set hm with q | rfl
 ·exact hlen l q
 ·exact hl
set_option maxHeartbeats 2000000 in
theorem kOps_spec {cx : Cx} {G : Nat} {κ : Kp} {g : H} {av v0 v6 : Value} {ll : List (List St)} (s : AW κ g av ll) (hlen : ∀ l ∈ ll,l.length ≤ 400) {i k : Nat} {l : List St} {x : St} (hll : ll.length ≤ 16) (hl : ll[i]? = some l) (hx : l[k]? = some x) (hn : x.ops.length ≤ 4) (hG : 4 < G) {re : Env}
  {kn kr : K} {ke : Nat → K} {Q : Value → H → Prop}
  (hkn : ∀ g' (e : Env),Ch κ (· = cOp i k) g g' → AW κ g' av (ll.set i (l.set k { x with ops := x.ops.mapIdx (fOp i k) })) → Ans (kn ((0,v0) :: (6,v6) :: (13,av) :: (25,vi i) :: (26,vi k) :: e) g' []) Q) :
  Ans (evC G cx kOps kn ke kr ((0,v0) :: (6,v6) :: (13,av) :: (25,vi i) :: (26,vi k) :: re) g []) Q := by
 have hi := (List.getElem?_eq_some_iff.1 hl).1
 have hk := (List.getElem?_eq_some_iff.1 hx).1
 have hl4 := hlen l (List.mem_of_getElem? hl)
 obtain ⟨b,cs,an,v1,rfl,b1,b2,b3,b4,q⟩ := s.lst hl
 simp (disch := first|omega|(simp only [zS];first|done|omega)) [bB,kOps,r8_28]
 refine loop_rule (fun m e g' => ∃ j : Nat,j ≤ x.ops.length ∧ m = x.ops.length - j ∧ Ch κ (· = cOp i k) g g' ∧ e = [(0,v0),(6,v6),(13,.slice (some ⟨b,0,none⟩) ll.length ll.length),(25,vi i),(26,vi k),(27,vi j)] ∧ LW κ i g' v1 (l.set k { x with ops := tk (fOp i k) j x.ops }))
  ?_ G (x.ops.length - 0) _ g (by omega) ⟨0,by omega,rfl,Ch.refl _ _ _,rfl,by rw [tk_zero,set_self'' hx];exact q⟩
 rintro m e g' again ⟨j,hj,rfl,hc,rfl,q'⟩ hag
 have hb := hc.get b2 (by rw [b1];exact (sOp_ok (i := i) (k := k) (by omega)).1)
 have hx' : (l.set k { x with ops := tk (fOp i k) j x.ops })[k]? = some { x with ops := tk (fOp i k) j x.ops } := List.getElem?_set_self hk
 have hl4' : (l.set k { x with ops := tk (fOp i k) j x.ops }).length ≤ 400 := by rw [List.length_set];exact hl4
 have hil : (i : Int) < ll.length := by omega
 have hkl : (k : Int) < l.length := by omega
 obtain ⟨b',cs',an',ov,rfl,c2,c3,c4,c5,c6,c7⟩ := q'.stp hx'
 rw [List.length_set] at b4
 have hol := c7.sl.len
 rw [show ({ x with ops := tk (fOp i k) j x.ops } : St).ops.length = x.ops.length from tk_len] at hol
 have h65 : k * 6 + 5 + 1 ≤ cs'.length := by omega
 by_cases hlt : j < x.ops.length
 ·obtain ⟨o,ho⟩ : ∃ o,x.ops[j]? = some o := ⟨_,List.getElem?_eq_getElem hlt⟩
  have hlt' : (j : Int) < x.ops.length := by omega
  have wj : IntKind.i64.wrap ((j : Int) + 1) = ((j + 1 : Nat) : Int) := by rw [wrap_in (by omega) (by omega)];omega
  have wm : IntKind.i64.wrap (IntKind.i64.wrap (1000 * IntKind.i64.wrap ((i : Int) + 1)) + k) = ((cOp i k : Nat) : Int) := by
   rw [wrap_in (n := (i : Int) + 1) (by omega) (by omega),wrap_in (n := 1000 * ((i : Int) + 1)) (by omega) (by omega),wrap_in (by omega) (by omega)]
   unfold cOp
   omega
  obtain ⟨d0,ds,dn,d2,ds2,dn2,g1,e1,e2,e3,e4,e5,e6,e7,e8,e9,e10⟩ := q'.op hl4' (q := 0) (o' := fOp i k j o) (y := vi ((cOp i k : Nat) : Int)) hx' (tk_get ho) (by decide) rfl rfl
  rw [show ({ x with ops := tk (fOp i k) j x.ops } : St).ops.length = x.ops.length from tk_len] at e4
  rw [List.set_set,show ({ ({ x with ops := tk (fOp i k) j x.ops } : St) with ops := (tk (fOp i k) j x.ops).set j (fOp i k j o) } : St) = { x with ops := tk (fOp i k) (j + 1) x.ops } from by rw [tk_set ho]] at e10
  injection e1 with f1
  injection f1 with f1
  injection f1 with f1
  subst f1
  rw [e2] at c3
  injection c3 with c3
  injection c3 with f1 f2 f3 f4
  subst f1
  rw [e4] at c6
  injection c6 with c6
  subst c6
  rw [Nat.add_zero] at e7
  simp (disch := first|omega|(simp only [zS];first|done|omega)) [bB,l8_32,r8_29,hil,hb,b3,b4,hkl,e2,h65,e4,hol,hlt',r8_30,wm,-wr,e7,r8_31,wj,hlt]
  exact hag (x.ops.length - (j + 1)) _ g1 (by omega) ⟨j + 1,hlt,rfl,hc.trans e9 (Agr.refl _ _),rfl,e10⟩
 ·have : j = x.ops.length := by omega
  subst this
  simp (disch := first|omega|(simp only [zS];first|done|omega)) [bB,l8_32,r8_29,hil,hb,b3,b4,hkl,c3,h65,c6,hol]
  rw [tk_all] at q'
  rw [List.length_set] at q'
  exact hkn g' _ hc (s.turn hlen hl hc (sOp_ok (by omega)).1 (sOp_ok (by omega)).2 rfl b1 b2 b4 q')
set_option maxHeartbeats 2000000 in
theorem kSts_spec {cx : Cx} {G : Nat} {κ : Kp} {g : H} {av v0 v6 : Value} {ll : List (List St)} (s : AW κ g av ll) (hlen : ∀ l ∈ ll,l.length ≤ 400) (hops : ∀ l ∈ ll,∀ x ∈ l,x.ops.length ≤ 4) {i : Nat} {l : List St} (hll : ll.length ≤ 16) (hl : ll[i]? = some l) (hG : 400 < G) {re : Env}
  {kn kr : K} {ke : Nat → K} {Q : Value → H → Prop}
  (hkn : ∀ g' (e : Env),Ch κ (fun c => 1000 ≤ c) g g' → AW κ g' av (ll.set i (fLs i l)) → Ans (kn ((0,v0) :: (6,v6) :: (13,av) :: (25,vi i) :: e) g' []) Q) :
  Ans (evC G cx kSts kn ke kr ((0,v0) :: (6,v6) :: (13,av) :: (25,vi i) :: re) g []) Q := by
 have hi := (List.getElem?_eq_some_iff.1 hl).1
 have hl4 := hlen l (List.mem_of_getElem? hl)
 simp (disch := first|omega|(simp only [zS];first|done|omega)) [bB,kSts,r8_26]
 refine loop_rule (fun m e g' => ∃ k : Nat,k ≤ l.length ∧ m = l.length - k ∧ Ch κ (fun c => 1000 ≤ c) g g' ∧ e = [(0,v0),(6,v6),(13,av),(25,vi i),(26,vi k)] ∧ AW κ g' av (ll.set i (tk (fSt i) k l)))
  ?_ G (l.length - 0) _ g (by omega) ⟨0,by omega,rfl,Ch.refl _ _ _,rfl,by rw [tk_zero,set_self'' hl];exact s⟩
 rintro m e g' again ⟨k,hk,rfl,hc,rfl,s'⟩ hag
 have hl' : (ll.set i (tk (fSt i) k l))[i]? = some (tk (fSt i) k l) := List.getElem?_set_self hi
 have hlen' : ∀ l1 ∈ ll.set i (tk (fSt i) k l),l1.length ≤ 400 := set_len400 hlen (by rw [tk_len];exact hl4)
 obtain ⟨b,cs,an,v1,e0,b1,b2,b3,b4,q⟩ := s'.lst hl'
 have hql := q.sl.len
 rw [tk_len] at hql
 have hil : (i : Int) < ll.length := by omega
 rw [List.length_set] at e0
 rw [l8_35s]
 by_cases hlt : k < l.length
 ·obtain ⟨x,hx⟩ : ∃ x,l[k]? = some x := ⟨_,List.getElem?_eq_getElem hlt⟩
  have hlt' : (k : Int) < l.length := by omega
  have wk : IntKind.i64.wrap ((k : Int) + 1) = ((k + 1 : Nat) : Int) := by rw [wrap_in (by omega) (by omega)];omega
  have wc : IntKind.i64.wrap (100 + (i : Int)) = 100 + (i : Int) := wrap_in (by omega) (by omega)
  have hx' := tk_get (f := fSt i) hx
  have e0' := e0
  subst e0
  simp (disch := first|omega|(simp only [zS];first|done|omega)) [bB,r8_27,hil,b2,b3,b4,hql,hlt']
  refine kOps_spec s' hlen' (by rw [List.length_set];exact hll) hl' hx' (hops l (List.mem_of_getElem? hl) x (List.mem_of_getElem? hx)) (by omega) fun g1 e1 c1 s1 => ?_
  rw [List.set_set] at s1
  have hl1 : (ll.set i ((tk (fSt i) k l).set k { x with ops := x.ops.mapIdx (fOp i k) }))[i]? = some ((tk (fSt i) k l).set k { x with ops := x.ops.mapIdx (fOp i k) }) := List.getElem?_set_self hi
  obtain ⟨d,ds,dn,v2,f0,f1,f2,f3,f4,q1⟩ := s1.lst hl1
  have hx1 : ((tk (fSt i) k l).set k { x with ops := x.ops.mapIdx (fOp i k) })[k]? = some { x with ops := x.ops.mapIdx (fOp i k) } := List.getElem?_set_self (by rw [tk_len];exact hlt)
  obtain ⟨d1,ds1,dn1,g2,h0,h1,h2,h3,h4,h5,h6⟩ := q1.putC (by rw [List.length_set,tk_len];exact hl4) hx1 (100 + (i : Int))
  rw [List.set_set,show ({ ({ x with ops := x.ops.mapIdx (fOp i k) } : St) with c := (100 + (i : Int)) } : St) = fSt i k x from rfl,tk_set hx] at h6
  have s2 := s1.turn (set_len400 hlen (by rw [List.length_set,tk_len];exact hl4)) hl1 h5 sSt_ok.1 sSt_ok.2 f0 f1 f2 f4 h6
  rw [List.set_set] at s2
  rw [List.length_set] at f0
  rw [List.length_set,tk_len] at h0
  injection f0 with f5
  injection f5 with f5
  injection f5 with f5
  subst f5
  subst h0
  simp (disch := first|omega|(simp only [zS];first|done|omega)) [bB,r8_33,hil,f2,f3,f4,wc,hlt',-wr,h3,r8_34,wk]
  exact hag (l.length - (k + 1)) _ g2 (by omega) ⟨k + 1,hlt,rfl,(hc.trans (c1.weak fun c e => by rw [e];exact nlt_op) (Agr.refl _ _)).trans (h5.weak fun c e => by rw [e];exact nlt_st) (Agr.refl _ _),rfl,s2⟩
 ·have : k = l.length := by omega
  subst this
  subst e0
  simp (disch := first|omega|(simp only [zS];first|done|omega)) [bB,r8_27,hil,b2,b3,b4,hql]
  rw [tk_all] at s'
  exact hkn g' _ hc s'
set_option maxHeartbeats 2000000 in
theorem kAll_spec {cx : Cx} {G : Nat} {κ : Kp} {g : H} {av v0 v6 : Value} {ll : List (List St)} (s : AW κ g av ll) (hlen : ∀ l ∈ ll,l.length ≤ 400) (hops : ∀ l ∈ ll,∀ x ∈ l,x.ops.length ≤ 4) (hll : ll.length ≤ 16) (hG : 400 < G) {s0 : Env} (h0 : s0.get 0 = v0) (h6 : s0.get 6 = v6) (h13 : s0.get 13 = av)
  {kn kr : K} {ke : Nat → K} {Q : Value → H → Prop}
  (hkn : ∀ g' (e : Env),Ch κ (fun c => 1000 ≤ c) g g' → AW κ g' av (ll.mapIdx fLs) → Ans (kn ((0,v0) :: (6,v6) :: (13,av) :: e) g' []) Q) :
  Ans (evC G cx kAll kn ke kr s0 g []) Q := by
 simp (disch := first|omega|(simp only [zS];first|done|omega)) [bB,kAll,r8_24,h0,h6,h13]
 refine loop_rule (fun m e g' => ∃ i : Nat,i ≤ ll.length ∧ m = ll.length - i ∧ Ch κ (fun c => 1000 ≤ c) g g' ∧ e = [(0,v0),(6,v6),(13,av),(25,vi i)] ∧ AW κ g' av (tk fLs i ll))
  ?_ G (ll.length - 0) _ g (by omega) ⟨0,by omega,rfl,Ch.refl _ _ _,rfl,by rw [tk_zero];exact s⟩
 rintro m e g' again ⟨i,hi,rfl,hc,rfl,s'⟩ hag
 have hal := s'.as.len
 rw [tk_len] at hal
 rw [l8_37s]
 by_cases hlt : i < ll.length
 ·obtain ⟨l,hl⟩ : ∃ l,ll[i]? = some l := ⟨_,List.getElem?_eq_getElem hlt⟩
  have hlt' : (i : Int) < ll.length := by omega
  have wi : IntKind.i64.wrap ((i : Int) + 1) = ((i + 1 : Nat) : Int) := by rw [wrap_in (by omega) (by omega)];omega
  have hmem : ∀ l1 ∈ tk fLs i ll,l1.length ≤ 400 ∧ ∀ x ∈ l1,x.ops.length ≤ 4 := fun l1 h1 => by
   unfold tk at h1
   rcases List.mem_append.1 h1 with h1 | h1
   ·obtain ⟨j,h2⟩ := List.mem_iff_getElem?.1 h1
    rw [List.getElem?_mapIdx] at h2
    obtain ⟨l2,h3,rfl⟩ := Option.map_eq_some_iff.1 h2
    have h4 := List.mem_of_mem_take (List.mem_of_getElem? h3)
    refine ⟨by simpa [fLs] using hlen l2 h4,fun x hx => ?_⟩
    obtain ⟨k,h5⟩ := List.mem_iff_getElem?.1 hx
    unfold fLs at h5
    rw [List.getElem?_mapIdx] at h5
    obtain ⟨x0,h6,rfl⟩ := Option.map_eq_some_iff.1 h5
    simpa [fSt] using hops l2 h4 x0 (List.mem_of_getElem? h6)
   ·have h4 := List.mem_of_mem_drop h1
    exact ⟨hlen l1 h4,hops l1 h4⟩
  simp (disch := first|omega|(simp only [zS];first|done|omega)) [bB,r8_25,hal,hlt']
  refine kSts_spec s' (fun l h => (hmem l h).1) (fun l h => (hmem l h).2) (by rw [tk_len];exact hll) (tk_get hl) hG fun g1 e1 c1 s1 => ?_
  simp (disch := first|omega|(simp only [zS];first|done|omega)) [bB,r8_36,wi]
  rw [tk_set hl] at s1
  exact hag (ll.length - (i + 1)) _ g1 (by omega) ⟨i + 1,hlt,rfl,hc.trans c1 (Agr.refl _ _),rfl,s1⟩
 ·have : i = ll.length := by omega
  subst this
  simp (disch := first|omega|(simp only [zS];first|done|omega)) [bB,r8_25,hal]
  rw [tk_all] at s'
  exact hkn g' _ hc s'
end Go.Proofs.YtnoghchcboiojaaGreatDoor
end
section
set_option maxRecDepth 100000
namespace Go.Proofs.YtnoghchcboiojaaGreatDoor
open Go.Ev
open Go.Rn (Bs Ru St)
variable {p : Bool} {F : Nat} {h : H}
def mkE (i : Nat) : Rn.Op := { kind := 300000 + (i : Int) }
def gOps : ACode := (.seq (.region r8_47 [0,6,13,28,29,30,31,32,33]) (.block 14 (.loop [0,6,13,28,29,30,31,32,33] l8_51)))
def gSts : ACode := (.seq (.region r8_41 [0,6,13,28,29,30]) (.block 12 (.loop [0,6,13,28,29,30] l8_55)))
theorem l8_55s : l8_55 = (.seq (.seq (.region r8_42 [0,6,13,28,29,30,171]) (.cond (.tmp 171) .skip (.exit 12))) (.seq (.block 13 (.seq (.region r8_43 [0,6,13,28,29,30,31]) (.seq (.region r8_44 [0,6,13,28,29,30,31,32]) (.seq (.seq (.region r8_45 [0,6,13,28,29,30,31,32,183]) (.cond (.tmp 183) (.region r8_46 [0,6,13,28,29,30,31,32]) .skip)) (.seq gOps (.seq (.region r8_52 [0,6,13,28,29,30,204]) (.cond (.tmp 204) (.seq (.region r8_53 [2]) .ret) .skip))))))) (.region r8_54 [0,6,13,28,29,30]))) := rfl
set_option maxHeartbeats 2000000 in
theorem gOps_spec {cx : Cx} {G : Nat} {κ : Kp} {col : Col} {g : H} {v0 v6 av mv v30 ov : Value} {ops : List Rn.Op} {i most : Nat} (s : Bld (fun c => κ c = col) 5 OpR g ov ops) (hn : ops.length ≤ 4) (hm : most ≤ 64) (hi : i < 16) (hG : 64 < G) {re : Env}
  {kn kr : K} {ke : Nat → K} {Q : Value → H → Prop}
  (hkn : ∀ (κ' : Kp) g' ov' (e : Env),Agr g.size κ κ' → Ch κ (· = col) g g' → KeptC g g' [] → Bld (fun c => κ' c = col) 5 OpR g' ov' (ops ++ List.replicate most (mkE i)) → Ans (kn ((0,v0) :: (6,v6) :: (13,av) :: (28,mv) :: (29,vi i) :: (30,v30) :: (31,ov') :: (32,vi most) :: e) g' []) Q) :
  Ans (evC G cx gOps kn ke kr ((0,v0) :: (6,v6) :: (13,av) :: (28,mv) :: (29,vi i) :: (30,v30) :: (31,ov) :: (32,vi most) :: re) g []) Q := by
 simp (disch := first|omega|(simp only [zS];first|done|omega)) [bB,gOps,r8_47]
 refine loop_rule (fun m e g' => ∃ (j : Nat) (κ' : Kp) (o : Value),j ≤ most ∧ m = most - j ∧ Agr g.size κ κ' ∧ Ch κ (· = col) g g' ∧ KeptC g g' [] ∧ e = [(0,v0),(6,v6),(13,av),(28,mv),(29,vi i),(30,v30),(31,o),(32,vi most),(33,vi j)] ∧ Bld (fun c => κ' c = col) 5 OpR g' o (ops ++ List.replicate j (mkE i)))
  ?_ G (most - 0) _ g (by omega) ⟨0,κ,ov,by omega,rfl,Agr.refl _ _,Ch.refl _ _ _,KeptC.refl _ _,rfl,by simpa using s⟩
 rintro m e g' again ⟨j,κ',o,hj,rfl,ha,hc,hk,rfl,s'⟩ hag
 by_cases hlt : j < most
 ·have hlt' : (j : Int) < most := by omega
  have wj : IntKind.i64.wrap ((j : Int) + 1) = ((j + 1 : Nat) : Int) := by rw [wrap_in (by omega) (by omega)];omega
  have wc : IntKind.i64.wrap (300000 + (i : Int)) = 300000 + (i : Int) := wrap_in (by omega) (by omega)
  obtain ⟨o1,g1,c1,c2,c3,c4⟩ := s'.appC (R2 := OpR) (bytes := 56) (new := opC (mkE i)) (mkE i) rfl (by rw [List.length_append,List.length_replicate];omega) (fun _ _ _ _ _ _ q => q) fun _ _ => rfl
  have ntx := s'.sl.ne_text
  unfold isText at ntx
  have eqm : opC (mkE i) = [vi (300000 + (i : Int)),.string { data := #[] },.string { data := #[] },vi 0,vi 0] := rfl
  rw [eqm] at c1
  simp (disch := first|omega|(simp only [zS];first|done|omega)) [bB,l8_51,r8_48,hlt',r8_49,wc,srcOf,isText,c1,ntx,r8_50,wj]
  refine hag (most - (j + 1)) _ g1 (by omega) ⟨j + 1,ext κ' g'.size col,o1,hlt,rfl,ha.trans (Agr.ext (Nat.le_refl _)) hc.1,hc.trans c3 ha,hk.trans c4,rfl,?_⟩
  rw [List.replicate_succ',← List.append_assoc]
  exact c2
 ·have : j = most := by omega
  subst this
  simp (disch := first|omega|(simp only [zS];first|done|omega)) [bB,l8_51,r8_48]
  exact hkn κ' g' o _ ha hc hk s'
def CR (_ : H) (cs : List Value) (c : Int) : Prop := cs.length = 6 ∧ (cs.drop 3).take 1 = [vi c]
def MoreR (h : H) (cs : List Value) (cl : List Int) : Prop := ∃ v,cs = [v] ∧ SlR (fun _ => True) 6 CR h v cl
theorem MoreR.kc {g g' : H} {cs : List Value} {cl : List Int} (q : MoreR g cs cl) (k : KeptC g g' []) : MoreR g' cs cl := by
 obtain ⟨v,e,s⟩ := q
 exact ⟨v,e,s.kc k (by simp) fun _ _ _ q => q⟩
theorem take_hd {cs : List Value} {o n : Nat} {a : Value} {t : List Value} (hn : 0 < n) (e : (cs.drop o).take n = a :: t) : (cs.drop o).take 1 = [a] ∧ o + 1 ≤ cs.length := by
 cases hd : cs.drop o with
 | nil => rw [hd] at e;simp at e
 | cons b l =>
  rw [hd] at e
  obtain ⟨n,rfl⟩ : ∃ m,n = m + 1 := ⟨n - 1,by omega⟩
  simp only [List.take_succ_cons] at e
  injection e with e1 e2
  have : (cs.drop o).length = l.length + 1 := by rw [hd];rfl
  rw [List.length_drop] at this
  exact ⟨by simp [e1],by omega⟩
def Done (n : Nat) (c : Nat) : Prop := c = 2 ∨ (1000 ≤ c ∧ c < n)
structure Grow (κ0 : Kp) (g0 : H) (n : Nat) (ml : List (List Int)) (κ : Kp) (g : H) (mv : Value) : Prop where
 agr : Agr g0.size κ0 κ
 ch : Ch κ0 (Done n) g0 g
 kc : KeptC g0 g []
 more : Bld (fun c => κ c = 2) 1 MoreR g mv ml
theorem Grow.step {κ0 κ κ' : Kp} {g0 g g' : H} {n n' : Nat} {ml : List (List Int)} {mv : Value} {col : Col} (s : Grow κ0 g0 n ml κ g mv) (ha : Agr g.size κ κ') (hc : Ch κ (· = col) g g') (hk : KeptC g g' []) (hn : n ≤ n') (h1 : 1000 ≤ col) (h2 : col < n') : Grow κ0 g0 n' ml κ' g' mv :=
 ⟨s.agr.trans ha s.ch.1,(s.ch.weak fun c q => q.imp id fun q => ⟨q.1,Nat.lt_of_lt_of_le q.2 hn⟩).trans (hc.weak fun c q => by rw [q];exact .inr ⟨h1,h2⟩) s.agr,s.kc.trans hk,
  s.more.tr hc (fun q => by rw [← q] at h1;exact absurd h1 (by decide)) ha fun cs i x hx q => q.kc hk⟩
theorem last_get {α : Type} (l : List α) (x : α) {n : Nat} (hn : 0 < n) : (l ++ List.replicate n x)[l.length + n - 1]? = some x := by
 rw [List.getElem?_append_right (by omega),List.getElem?_replicate,if_pos (by omega)]
set_option maxHeartbeats 2000000 in
theorem gSts_spec {cx : Cx} {G : Nat} {κ0 : Kp} {g0 : H} {av mv v0 v6 : Value} {ll : List (List St)} (s : AW κ0 g0 av ll) (hlen : ∀ l ∈ ll,l.length ≤ 400) (hops : ∀ l ∈ ll,∀ x ∈ l,x.ops.length ≤ 4) {i : Nat} {l : List St} (hll : ll.length ≤ 16) (hl : ll[i]? = some l) (hG : 400 < G)
  {κ : Kp} {g : H} {ml : List (List Int)} (hgr : Grow κ0 g0 (cOp i 0) ml κ g mv) {re : Env}
  {kn kr : K} {ke : Nat → K} {Q : Value → H → Prop}
  (hkn : ∀ κ' g' (e : Env),Grow κ0 g0 (cSt i) ml κ' g' mv → Ans (kn ((0,v0) :: (6,v6) :: (13,av) :: (28,mv) :: (29,vi i) :: e) g' []) Q) :
  Ans (evC G cx gSts kn ke kr ((0,v0) :: (6,v6) :: (13,av) :: (28,mv) :: (29,vi i) :: re) g []) Q := by
 have hi := (List.getElem?_eq_some_iff.1 hl).1
 have hl4 := hlen l (List.mem_of_getElem? hl)
 simp (disch := first|omega|(simp only [zS];first|done|omega)) [bB,gSts,r8_41]
 refine loop_rule (fun m e g' => ∃ (k : Nat) (κ' : Kp),k ≤ l.length ∧ m = l.length - k ∧ e = [(0,v0),(6,v6),(13,av),(28,mv),(29,vi i),(30,vi k)] ∧ Grow κ0 g0 (cOp i k) ml κ' g' mv)
  ?_ G (l.length - 0) _ g (by omega) ⟨0,κ,by omega,rfl,rfl,hgr⟩
 rintro m e g' again ⟨k,κ',hk,rfl,rfl,hgr'⟩ hag
 obtain ⟨b,cs,an,v1,e0,b1,b2,b3,b4,q⟩ := s.lst hl
 have hd1 : ¬ Done (cOp i k) 1 := by unfold Done cOp;omega
 have hb := hgr'.ch.get b2 (by rw [b1];exact hd1)
 have hql := (q.sl.kc hgr'.kc (by simp) fun _ _ _ q => StE.kc q hgr'.kc).len
 have hil : (i : Int) < ll.length := by omega
 rw [l8_55s]
 by_cases hlt : k < l.length
 ·obtain ⟨x,hx⟩ : ∃ x,l[k]? = some x := ⟨_,List.getElem?_eq_getElem hlt⟩
  have hlt' : (k : Int) < l.length := by omega
  have wk : IntKind.i64.wrap ((k : Int) + 1) = ((k + 1 : Nat) : Int) := by rw [wrap_in (by omega) (by omega)];omega
  have wc : IntKind.i64.wrap (300000 + (i : Int)) = 300000 + (i : Int) := wrap_in (by omega) (by omega)
  have hx4 := hops l (List.mem_of_getElem? hl) x (List.mem_of_getElem? hx)
  obtain ⟨d,ds,dn,ov,f0,f1,f2,f3,f4,f5,f6⟩ := q.stp hx
  have hd2 : ¬ Done (cOp i k) (cSt i) := by unfold Done cOp cSt;omega
  have hd3 : ¬ Done (cOp i k) (cOp i k) := by unfold Done cOp;omega
  have hd := hgr'.ch.get f2 (by rw [f1];exact hd2)
  have ho := f6.tr (R2 := OpR) hgr'.ch hd3 hgr'.agr fun _ _ _ _ q => q
  have h65 : k * 6 + 5 + 1 ≤ ds.length := by omega
  subst e0
  subst f0
  have one := ho.sl.one
  have goon : ∀ (most : Nat) (re' : Env),0 < most → most ≤ 64 →
    Ans (evC G cx gOps (evC G cx (.seq (.region r8_52 [0,6,13,28,29,30,204]) (.cond (.tmp 204) (.seq (.region r8_53 [2]) .ret) .skip)) (evC G cx (.region r8_54 [0,6,13,28,29,30]) (keepK [0,6,13,28,29,30] again) (putK 12 kn ke) kr) (putK 13 (evC G cx (.region r8_54 [0,6,13,28,29,30]) (keepK [0,6,13,28,29,30] again) (putK 12 kn ke) kr) (putK 12 kn ke)) kr)
     (putK 13 (evC G cx (.region r8_54 [0,6,13,28,29,30]) (keepK [0,6,13,28,29,30] again) (putK 12 kn ke) kr) (putK 12 kn ke)) kr
     ((0,v0) :: (6,v6) :: (13,.slice (some ⟨b,0,none⟩) ll.length ll.length) :: (28,mv) :: (29,vi i) :: (30,vi k) :: (31,ov) :: (32,vi most) :: re') g' []) Q := by
   intro most re' hm0 hm
   refine gOps_spec ho hx4 hm (by omega) (by omega) fun κ2 g2 ov2 e2 a2 c2 k2 s2 => ?_
   obtain ⟨b',o',c',cs',es',lv',an',rfl,_,hg2,hl2,hr2⟩ := s2.sl.at' (last_get x.ops (mkE i) hm0)
   have hlen2 : (x.ops ++ List.replicate most (mkE i)).length = x.ops.length + most := by rw [List.length_append,List.length_replicate]
   have h01 := (take_hd (by decide) (show (cs'.drop (o' + (x.ops.length + most - 1) * 5)).take 5 = vi (300000 + (i : Int)) :: [vs [],vs [],vi 0,vi 0] from hr2))
   rw [hlen2]
   have w1 : IntKind.i64.wrap (((x.ops.length + most : Nat) : Int) - 1) = ((x.ops.length + most - 1 : Nat) : Int) := by rw [wrap_in (by omega) (by omega)];omega
   have hlt2 : ((x.ops.length + most - 1 : Nat) : Int) < ((x.ops.length + most : Nat) : Int) := by omega
   generalize hN : x.ops.length + most = N at *
   have h01a := h01.1
   have h01b := h01.2
   generalize hN1 : N - 1 = N1 at *
   simp (disch := first|omega|(simp only [zS];first|done|omega)) [bB,r8_52,w1,hlt2,hg2,h01a,h01b,wc,r8_54,wk]
   refine hag (l.length - (k + 1)) _ g2 (by omega) ⟨k + 1,κ2,hlt,rfl,rfl,hgr'.step a2 c2 k2 (by unfold cOp;omega) nlt_op (show (cOp i k : Nat) < cOp i (k + 1) by unfold cOp;omega)⟩
  by_cases h16 : k < 16
  ·have h16' : ¬ ((16 : Int) ≤ k) := by omega
   simp (disch := first|omega|(simp only [zS];first|done|omega)) [bB,r8_42,hil,hb,b3,b4,hql,hlt',r8_43,hd,h65,f5,r8_44,r8_45,h16']
   exact goon 64 _ (by decide) (by decide)
  ·have h16' : (16 : Int) ≤ k := by omega
   simp (disch := first|omega|(simp only [zS];first|done|omega)) [bB,r8_42,hil,hb,b3,b4,hql,hlt',r8_43,hd,h65,f5,r8_44,r8_45,h16',r8_46]
   exact goon 2 _ (by decide) (by decide)
 ·have : k = l.length := by omega
  subst this
  subst e0
  simp (disch := first|omega|(simp only [zS];first|done|omega)) [bB,r8_42,hil,hb,b3,b4,hql]
  exact hkn κ' g' _ ⟨hgr'.agr,hgr'.ch.weak fun c q => q.imp id fun q => ⟨q.1,Nat.lt_of_lt_of_le q.2 (by unfold cOp cSt;omega)⟩,hgr'.kc,hgr'.more⟩
end Go.Proofs.YtnoghchcboiojaaGreatDoor
end
section
set_option maxRecDepth 100000
namespace Go.Proofs.YtnoghchcboiojaaGreatDoor
open Go.Ev
open Go.Rn (Bs Ru St)
variable {p : Bool} {F : Nat} {h : H}
def gNew : ACode := (.seq (.region r8_57 [0,6,13,28,29,34,35]) (.block 16 (.loop [0,6,13,28,29,34,35] l8_61)))
def gAll : ACode := (.seq (.region r8_38 [0,6,13,28]) (.seq (.region r8_39 [0,6,13,28,29]) (.block 10 (.loop [0,6,13,28,29] l8_64))))
theorem l8_64s : l8_64 = (.seq (.seq (.region r8_40 [0,6,13,28,29,162]) (.cond (.tmp 162) .skip (.exit 10))) (.seq (.block 11 (.seq gSts (.seq (.region r8_56 [0,6,13,28,29,34]) (.seq gNew (.region r8_62 [0,6,13,28,29]))))) (.region r8_63 [0,6,13,28,29]))) := rfl
set_option maxHeartbeats 2000000 in
theorem gNew_spec {cx : Cx} {G : Nat} {κ : Kp} {col : Col} {g : H} {v0 v6 av mv v : Value} {cl : List Int} {i : Nat} (s : Bld (fun c => κ c = col) 6 CR g v cl) (hn : cl.length ≤ 400) (hi : i < 16) (hG : 64 < G) {re : Env}
  {kn kr : K} {ke : Nat → K} {Q : Value → H → Prop}
  (hkn : ∀ (κ' : Kp) g' v' (e : Env),Agr g.size κ κ' → Ch κ (· = col) g g' → KeptC g g' [] → Bld (fun c => κ' c = col) 6 CR g' v' (cl ++ List.replicate 64 (200 + (i : Int))) → Ans (kn ((0,v0) :: (6,v6) :: (13,av) :: (28,mv) :: (29,vi i) :: (34,v') :: e) g' []) Q) :
  Ans (evC G cx gNew kn ke kr ((0,v0) :: (6,v6) :: (13,av) :: (28,mv) :: (29,vi i) :: (34,v) :: re) g []) Q := by
 simp (disch := first|omega|(simp only [zS];first|done|omega)) [bB,gNew,r8_57]
 refine loop_rule (fun m e g' => ∃ (j : Nat) (κ' : Kp) (o : Value),j ≤ 64 ∧ m = 64 - j ∧ Agr g.size κ κ' ∧ Ch κ (· = col) g g' ∧ KeptC g g' [] ∧ e = [(0,v0),(6,v6),(13,av),(28,mv),(29,vi i),(34,o),(35,vi j)] ∧ Bld (fun c => κ' c = col) 6 CR g' o (cl ++ List.replicate j (200 + (i : Int))))
  ?_ G (64 - 0) _ g (by omega) ⟨0,κ,v,by omega,rfl,Agr.refl _ _,Ch.refl _ _ _,KeptC.refl _ _,rfl,by simpa using s⟩
 rintro m e g' again ⟨j,κ',o,hj,rfl,ha,hc,hk,rfl,s'⟩ hag
 by_cases hlt : j < 64
 ·have hlt' : (j : Int) < 64 := by omega
  have wj : IntKind.i64.wrap ((j : Int) + 1) = ((j + 1 : Nat) : Int) := by rw [wrap_in (by omega) (by omega)];omega
  have wc : IntKind.i64.wrap (200 + (i : Int)) = 200 + (i : Int) := wrap_in (by omega) (by omega)
  obtain ⟨o1,g1,c1,c2,c3,c4⟩ := s'.appC (R2 := CR) (bytes := 72) (new := [vi 0,vi 0,vi 0,vi (200 + (i : Int)),.string { data := #[] },.slice none 0 0]) (200 + (i : Int)) rfl (by rw [List.length_append,List.length_replicate];omega) (fun _ _ _ _ _ _ q => q) fun _ _ => ⟨rfl,rfl⟩
  have ntx := s'.sl.ne_text
  unfold isText at ntx
  simp (disch := first|omega|(simp only [zS];first|done|omega)) [bB,l8_61,r8_58,hlt',r8_59,wc,srcOf,isText,c1,ntx,r8_60,wj]
  refine hag (64 - (j + 1)) _ g1 (by omega) ⟨j + 1,ext κ' g'.size col,o1,hlt,rfl,ha.trans (Agr.ext (Nat.le_refl _)) hc.1,hc.trans c3 ha,hk.trans c4,rfl,?_⟩
  rw [List.replicate_succ',← List.append_assoc]
  exact c2
 ·have : j = 64 := by omega
  subst this
  simp (disch := first|omega|(simp only [zS];first|done|omega)) [bB,l8_61,r8_58]
  exact hkn κ' g' o _ ha hc hk s'
def grown (i : Nat) (l : List St) : List Int := l.map (fun s => s.c) ++ List.replicate 64 (200 + (i : Int))
theorem LW.cs {κ0 κ : Kp} {g0 g : H} {n i : Nat} {ml : List (List Int)} {v mv : Value} {l : List St} (q : LW κ0 i g0 v l) (s : Grow κ0 g0 n ml κ g mv) (hn : ¬ Done n (cSt i)) : Bld (fun c => κ c = cSt i) 6 CR g v (l.map fun s => s.c) := by
 refine Bld.to' q s.ch.1 (by rw [List.length_map,zipI_len]) (fun c hc e => (s.agr c hc).trans e) (fun c x e hk => s.ch.get e (by rw [hk];exact hn)) fun cs j x y hx hy r => ?_
 obtain ⟨ov,e,_⟩ := r
 rw [List.getElem?_map,(zipI_inv hx).1] at hy
 cases hy
 subst e
 exact ⟨rfl,rfl⟩
set_option maxHeartbeats 2000000 in
theorem gAll_spec {cx : Cx} {G : Nat} {κ0 : Kp} {g0 : H} {av v0 v6 : Value} {ll : List (List St)} (s : AW κ0 g0 av ll) (hlen : ∀ l ∈ ll,l.length ≤ 400) (hops : ∀ l ∈ ll,∀ x ∈ l,x.ops.length ≤ 4) (hll : ll.length ≤ 16) (hG : 400 < G) {re : Env}
  {kn kr : K} {ke : Nat → K} {Q : Value → H → Prop}
  (hkn : ∀ g' mv (e : Env),Ch κ0 (fun c => c = 2 ∨ 1000 ≤ c) g0 g' → KeptC g0 g' [] → SlR (fun _ => True) 1 MoreR g' mv (ll.mapIdx grown) → Ans (kn ((0,v0) :: (6,v6) :: (13,av) :: (28,mv) :: e) g' []) Q) :
  Ans (evC G cx gAll kn ke kr ((0,v0) :: (6,v6) :: (13,av) :: re) g0 []) Q := by
 simp (disch := first|omega|(simp only [zS];first|done|omega)) [bB,gAll,r8_38,r8_39]
 refine loop_rule (fun m e g' => ∃ (i : Nat) (κ : Kp) (mv : Value),i ≤ ll.length ∧ m = ll.length - i ∧ e = [(0,v0),(6,v6),(13,av),(28,mv),(29,vi i)] ∧ Grow κ0 g0 (cOp i 0) ((ll.take i).mapIdx grown) κ g' mv)
  ?_ G (ll.length - 0) _ g0 (by omega) ⟨0,κ0,_,by omega,rfl,rfl,Agr.refl _ _,Ch.refl _ _ _,KeptC.refl _ _,by simpa using Bld.nil _ _ _ _⟩
 rintro m e g again ⟨i,κ,mv,hi,rfl,rfl,hgr⟩ hag
 have hal := (s.as.kc hgr.kc).len
 rw [l8_64s]
 by_cases hlt : i < ll.length
 ·obtain ⟨l,hl⟩ : ∃ l,ll[i]? = some l := ⟨_,List.getElem?_eq_getElem hlt⟩
  have hlt' : (i : Int) < ll.length := by omega
  have wi : IntKind.i64.wrap ((i : Int) + 1) = ((i + 1 : Nat) : Int) := by rw [wrap_in (by omega) (by omega)];omega
  have hl4 := hlen l (List.mem_of_getElem? hl)
  simp (disch := first|omega|(simp only [zS];first|done|omega)) [bB,r8_40,hal,hlt']
  refine gSts_spec s hlen hops hll hl hG hgr fun κ1 g1 e1 hgr1 => ?_
  obtain ⟨b,cs,an,v1,e0,b1,b2,b3,b4,q⟩ := s.lst hl
  have hd1 : ¬ Done (cSt i) 1 := by unfold Done cSt;omega
  have hd2 : ¬ Done (cSt i) (cSt i) := by unfold Done cSt;omega
  have hb := hgr1.ch.get b2 (by rw [b1];exact hd1)
  have q1 := q.cs hgr1 hd2
  subst e0
  simp (disch := first|omega|(simp only [zS];first|done|omega)) [bB,r8_56,hlt',hb,b3,b4]
  refine gNew_spec q1 (by rw [List.length_map];exact hl4) (by omega) (by omega) fun κ2 g2 v2 e2 a2 c2 k2 s2 => ?_
  have hgr2 := hgr1.step (n' := cOp (i + 1) 0) a2 c2 k2 (show (cSt i : Nat) ≤ cOp (i + 1) 0 by unfold cOp cSt;omega) nlt_st (show (cSt i : Nat) < cOp (i + 1) 0 by unfold cOp cSt;omega)
  obtain ⟨mv',g3,c1',c2',c3',c4'⟩ := hgr2.more.appCs (R2 := MoreR) (bytes := 24) (new := [v2]) [grown i l] rfl (by simp;omega) (fun h' _ k cs j y _ q => q.kc k)
   fun h' _ k j y hy => by
    cases j with
    | succ j => simp at hy
    | zero =>
     simp at hy
     subst hy
     exact ⟨v2,rfl,(s2.sl.imp (ok' := fun _ => True) (R' := CR) (h' := h') (fun _ _ _ => trivial) (fun _ _ _ q => q) (fun b cs _ e => (k.2 b (cel_lt e) (by simp)).trans e))⟩
  have ntx := hgr2.more.sl.ne_text
  unfold isText at ntx
  have one := s2.sl.one
  have vc := s2.sl.vc
  have one' := one
  unfold oneCell at one'
  have vc' := vc
  unfold vcells at vc'
  simp only [List.length_singleton] at c1'
  simp (disch := first|omega|(simp only [zS];first|done|omega)) [bB,r8_62,srcOf,isText,one,one',vc,vc',fillL,c1',ntx,r8_63,wi]
  have a3 : Agr g2.size κ2 (ext κ2 g2.size 2) := Agr.ext (Nat.le_refl _)
  refine hag (ll.length - (i + 1)) _ g3 (by omega) ⟨i + 1,ext κ2 g2.size 2,mv',hlt,rfl,rfl,hgr2.agr.trans a3 hgr2.ch.1,hgr2.ch.trans (c3'.weak fun c q => .inl q) hgr2.agr,hgr2.kc.trans c4',?_⟩
  have hti : (ll.take (i + 1)).mapIdx grown = (ll.take i).mapIdx grown ++ [grown i l] := by
   rw [List.take_add_one,hl,Option.toList_some,List.mapIdx_append]
   simp [List.length_take,Nat.min_eq_left hi]
  rw [hti]
  exact c2'
 ·have : i = ll.length := by omega
  subst this
  simp (disch := first|omega|(simp only [zS];first|done|omega)) [bB,r8_40,hal]
  have := hgr.more.sl
  rw [List.take_length] at this
  exact hkn g mv _ (hgr.ch.weak fun c q => q.imp id fun q => q.1) hgr.kc (this.imp (fun _ _ _ => trivial) (fun _ _ _ q => q) fun _ _ _ e => e)
end Go.Proofs.YtnoghchcboiojaaGreatDoor
end
section
set_option maxRecDepth 100000
namespace Go.Proofs.YtnoghchcboiojaaGreatDoor
open Go.Ev
open Go.Rn (Bs Ru St)
variable {p : Bool} {F : Nat} {h : H}
def cOps : ACode := (.seq (.region r8_74 [0,6,13,28,36,37,38]) (.block 22 (.loop [0,6,13,28,36,37,38] l8_79)))
def cSts : ACode := (.seq (.region r8_67 [0,6,13,28,36,37]) (.block 20 (.loop [0,6,13,28,36,37] l8_81)))
def cAll : ACode := (.seq (.region r8_65 [0,6,13,28,36]) (.block 18 (.loop [0,6,13,28,36] l8_83)))
theorem l8_81s : l8_81 = (.seq (.seq (.region r8_68 [0,6,13,28,36,37,235]) (.cond (.tmp 235) .skip (.exit 20))) (.seq (.block 21 (.seq (.seq (.region r8_69 [0,6,13,28,36,37,257]) (.cond (.tmp 257) (.seq (.region r8_70 [2]) .ret) .skip)) (.seq (.seq (.region r8_71 [0,6,13,28,36,37,264]) (.cond (.tmp 264) (.exit 21) .skip)) (.seq (.seq (.region r8_72 [0,6,13,28,36,37,288]) (.cond (.tmp 288) (.seq (.region r8_73 [2]) .ret) .skip)) cOps)))) (.region r8_80 [0,6,13,28,36,37]))) := rfl
theorem l8_83s : l8_83 = (.seq (.seq (.region r8_66 [0,6,13,28,36,226]) (.cond (.tmp 226) .skip (.exit 18))) (.seq (.block 19 cSts) (.region r8_82 [0,6,13,28,36]))) := rfl
def Marked (i : Nat) (l : List St) : Prop := l.length ≤ 400 ∧ ∀ (k : Nat) s,l[k]? = some s → s.c = 100 + (i : Int) ∧ s.ops.length ≤ 4 ∧ ∀ (j : Nat) o,s.ops[j]? = some o → o.kind = ((cOp i k : Nat) : Int)
theorem AS.lst {g : H} {v : Value} {ll : List (List St)} (s : AS g v ll) {i : Nat} {l : List St} (hl : ll[i]? = some l) :
  ∃ b o c cs es lv an v1,v = .slice (some ⟨b,o,none⟩) ll.length c ∧ hget g b = some (.cells cs es lv an) ∧ o + i + 1 ≤ cs.length ∧ (cs.drop (o + i)).take 1 = [v1] ∧ SlR (fun _ => True) 6 StE g v1 l := by
 obtain ⟨b,o,c,cs,es,lv,an,e,_,hg,h1,v1,h2,q⟩ := SlR.at' s hl
 rw [Nat.mul_one] at h1 h2
 exact ⟨b,o,c,cs,es,lv,an,v1,e,hg,h1,h2,q⟩
theorem cr_at {cs : List Value} {q : Nat} {g : H} {c : Int} (e : CR g ((cs.drop q).take 6) c) : (cs.drop (q + 3)).take 1 = [vi c] := by
 have e := e.2
 rw [List.drop_take,List.drop_drop,List.take_take] at e
 exact e
set_option maxHeartbeats 2000000 in
theorem cOps_spec {cx : Cx} {G : Nat} {g : H} {av mv v0 v6 : Value} {ll : List (List St)} (s : AS g av ll) {i k : Nat} {l : List St} {x : St} (hll : ll.length ≤ 16) (hl : ll[i]? = some l) (hM : Marked i l) (hx : l[k]? = some x) (hG : 400 < G) {re : Env}
  {kn kr : K} {ke : Nat → K} {Q : Value → H → Prop}
  (hkn : ∀ (e : Env),Ans (kn ((0,v0) :: (6,v6) :: (13,av) :: (28,mv) :: (36,vi i) :: (37,vi k) :: e) g []) Q) :
  Ans (evC G cx cOps kn ke kr ((0,v0) :: (6,v6) :: (13,av) :: (28,mv) :: (36,vi i) :: (37,vi k) :: re) g []) Q := by
 have hi := (List.getElem?_eq_some_iff.1 hl).1
 have hk := (List.getElem?_eq_some_iff.1 hx).1
 have hl4 := hM.1
 obtain ⟨hc,hn,ho⟩ := hM.2 k x hx
 obtain ⟨b,o,c,cs,es,lv,an,v1,rfl,b1,b2,b3,q⟩ := s.lst hl
 obtain ⟨d,o1,c1,ds,es1,lv1,an1,rfl,_,d1,d2,ov,okx,d3,q2⟩ := q.at' hx
 have d5 := fld_of (k := 5) d3 rfl
 have hol := q2.len
 have hil : (i : Int) < ll.length := by omega
 have hkl : (k : Int) < l.length := by omega
 have h65 : o1 + k * 6 + 5 + 1 ≤ ds.length := by omega
 simp (disch := first|omega|(simp only [zS];first|done|omega)) [bB,cOps,r8_74]
 refine loop_rule (fun m e g' => ∃ j : Nat,j ≤ x.ops.length ∧ m = x.ops.length - j ∧ g' = g ∧ e = [(0,v0),(6,v6),(13,.slice (some ⟨b,o,none⟩) ll.length c),(28,mv),(36,vi i),(37,vi k),(38,vi j)])
  ?_ G (x.ops.length - 0) _ g (by omega) ⟨0,by omega,rfl,rfl,rfl⟩
 rintro m e g' again ⟨j,hj,rfl,rfl,rfl⟩ hag
 by_cases hlt : j < x.ops.length
 ·obtain ⟨y,hy⟩ : ∃ y,x.ops[j]? = some y := ⟨_,List.getElem?_eq_getElem hlt⟩
  have hlt' : (j : Int) < x.ops.length := by omega
  have wj : IntKind.i64.wrap ((j : Int) + 1) = ((j + 1 : Nat) : Int) := by rw [wrap_in (by omega) (by omega)];omega
  have wm : IntKind.i64.wrap (IntKind.i64.wrap (1000 * IntKind.i64.wrap ((i : Int) + 1)) + k) = ((cOp i k : Nat) : Int) := by
   rw [wrap_in (n := (i : Int) + 1) (by omega) (by omega),wrap_in (n := 1000 * ((i : Int) + 1)) (by omega) (by omega),wrap_in (by omega) (by omega)]
   unfold cOp
   omega
  obtain ⟨d',o',c',cs',es',lv',an',rfl,_,f1,f2,f3⟩ := q2.at' hy
  have f4 := take_hd (by decide) (show (cs'.drop (o' + j * 5)).take 5 = vi y.kind :: [vs y.place,vs y.data,vi y.version,vi y.flags] from f3)
  obtain ⟨f5,f6⟩ := f4
  rw [ho j y hy] at f5
  simp (disch := first|omega|(simp only [zS];first|done|omega)) [bB,l8_79,r8_75,hil,b1,b2,b3,hkl,d1,h65,d5,hol,hlt',r8_76,f1,f5,f6,wm,r8_78,wj]
  exact hag (x.ops.length - (j + 1)) _ _ (by omega) ⟨j + 1,hlt,rfl,rfl,rfl⟩
 ·have : j = x.ops.length := by omega
  subst this
  simp (disch := first|omega|(simp only [zS];first|done|omega)) [bB,l8_79,r8_75,hil,b1,b2,b3,hkl,d1,h65,d5,hol]
  exact hkn _
set_option maxHeartbeats 2000000 in
theorem cSts_spec {cx : Cx} {G : Nat} {g : H} {av mv v0 v6 : Value} {ll : List (List St)} (s : AS g av ll) (t : SlR (fun _ => True) 1 MoreR g mv (ll.mapIdx grown)) {i : Nat} {l : List St} (hll : ll.length ≤ 16) (hl : ll[i]? = some l) (hM : Marked i l) (hG : 500 < G) {re : Env}
  {kn kr : K} {ke : Nat → K} {Q : Value → H → Prop}
  (hkn : ∀ (e : Env),Ans (kn ((0,v0) :: (6,v6) :: (13,av) :: (28,mv) :: (36,vi i) :: e) g []) Q) :
  Ans (evC G cx cSts kn ke kr ((0,v0) :: (6,v6) :: (13,av) :: (28,mv) :: (36,vi i) :: re) g []) Q := by
 have hi := (List.getElem?_eq_some_iff.1 hl).1
 have hl4 := hM.1
 have s0 := s
 obtain ⟨b,o,c,cs,es,lv,an,v1,rfl,b1,b2,b3,q⟩ := s.lst hl
 have hgl : (ll.mapIdx grown)[i]? = some (grown i l) := by rw [List.getElem?_mapIdx,hl];rfl
 obtain ⟨bm,om,cm,csm,esm,lvm,anm,rfl,_,m1,m2,vm,m3,qm⟩ := t.at' hgl
 rw [Nat.mul_one] at m2 m3
 rw [List.length_mapIdx] at *
 have hil : (i : Int) < ll.length := by omega
 have hvl := q.len
 have hml := qm.len
 have hgn : (grown i l).length = l.length + 64 := by simp [grown]
 rw [hgn] at hml
 simp (disch := first|omega|(simp only [zS];first|done|omega)) [bB,cSts,r8_67]
 refine loop_rule (fun m e g' => ∃ k : Nat,k ≤ l.length + 64 ∧ m = l.length + 64 - k ∧ g' = g ∧ e = [(0,v0),(6,v6),(13,.slice (some ⟨b,o,none⟩) ll.length c),(28,.slice (some ⟨bm,om,none⟩) ll.length cm),(36,vi i),(37,vi k)])
  ?_ G (l.length + 64 - 0) _ g (by omega) ⟨0,by omega,rfl,rfl,rfl⟩
 rintro m e g' again ⟨k,hk,rfl,rfl,rfl⟩ hag
 rw [l8_81s]
 by_cases hlt : k < l.length + 64
 ·have hlt' : (k : Int) < ((l.length + 64 : Nat) : Int) := by omega
  have wk : IntKind.i64.wrap ((k : Int) + 1) = ((k + 1 : Nat) : Int) := by rw [wrap_in (by omega) (by omega)];omega
  have w2 : IntKind.i64.wrap (200 + (i : Int)) = 200 + (i : Int) := wrap_in (by omega) (by omega)
  have w1 : IntKind.i64.wrap (100 + (i : Int)) = 100 + (i : Int) := wrap_in (by omega) (by omega)
  obtain ⟨z,hz⟩ : ∃ z,(grown i l)[k]? = some z := ⟨_,List.getElem?_eq_getElem (by omega)⟩
  obtain ⟨dm,o2,c2,dsm,esd,lvd,and2,rfl,_,n1,n2,n3⟩ := qm.at' hz
  have n4 := cr_at n3
  have n5 : o2 + k * 6 + 3 + 1 ≤ dsm.length := by omega
  rw [hgn] at *
  by_cases hkl : k < l.length
  ·obtain ⟨x,hx⟩ : ∃ x,l[k]? = some x := ⟨_,List.getElem?_eq_getElem hkl⟩
   have hge : ¬ ((l.length : Int) ≤ k) := by omega
   have hkl' : (k : Int) < l.length := by omega
   obtain ⟨hc,hn,ho⟩ := hM.2 k x hx
   have hzc : z = 100 + (i : Int) := by
    rw [grown,List.getElem?_append_left (by rw [List.length_map];exact hkl),List.getElem?_map,hx] at hz
    rw [← hc]
    exact (Option.some.inj hz).symm
   subst hzc
   obtain ⟨d,o1,c1,ds,es1,lv1,an1,rfl,_,d1,d2,ov,okx,d3,q2⟩ := q.at' hx
   have d5 := fld_of (k := 3) d3 rfl
   rw [hc] at d5
   have h63 : o1 + k * 6 + 3 + 1 ≤ ds.length := by omega
   simp (disch := first|omega|(simp only [zS];first|done|omega)) [bB,r8_68,hil,m1,m2,m3,hlt',r8_69,b1,b2,b3,hge,r8_71,r8_72,hkl',d1,d5,h63,w1,n1,n4,n5]
   refine cOps_spec s0 hll hl hM hx (by omega) fun e' => ?_
   simp (disch := first|omega|(simp only [zS];first|done|omega)) [bB,r8_80,wk]
   exact hag (l.length + 64 - (k + 1)) _ _ (by omega) ⟨k + 1,hlt,rfl,rfl,rfl⟩
  ·have hge : (l.length : Int) ≤ k := by omega
   have hzc : z = 200 + (i : Int) := by
    rw [grown,List.getElem?_append_right (by rw [List.length_map];omega),List.length_map,List.getElem?_replicate,if_pos (by omega)] at hz
    exact (Option.some.inj hz).symm
   subst hzc
   simp (disch := first|omega|(simp only [zS];first|done|omega)) [bB,r8_68,hil,m1,m2,m3,hlt',r8_69,b1,b2,b3,hvl,hge,r8_71,w2,n1,n4,n5,r8_80,wk]
   exact hag (l.length + 64 - (k + 1)) _ _ (by omega) ⟨k + 1,hlt,rfl,rfl,rfl⟩
 ·have hlt' : ¬ (k : Int) < ((l.length + 64 : Nat) : Int) := by omega
  simp (disch := first|omega|(simp only [zS];first|done|omega)) [bB,r8_68,hil,m1,m2,m3,hml,hlt']
  exact hkn _
set_option maxHeartbeats 2000000 in
theorem cAll_spec {cx : Cx} {G : Nat} {g : H} {av mv v0 v6 : Value} {ll : List (List St)} (s : AS g av ll) (t : SlR (fun _ => True) 1 MoreR g mv (ll.mapIdx grown)) (hll : ll.length ≤ 16) (hM : ∀ (i : Nat) l,ll[i]? = some l → Marked i l) (hG : 500 < G) {re : Env}
  {kn kr : K} {ke : Nat → K} {Q : Value → H → Prop}
  (hkn : ∀ (e : Env),Ans (kn ((0,v0) :: (6,v6) :: (13,av) :: (28,mv) :: e) g []) Q) :
  Ans (evC G cx cAll kn ke kr ((0,v0) :: (6,v6) :: (13,av) :: (28,mv) :: re) g []) Q := by
 have htl := t.len
 rw [List.length_mapIdx] at htl
 simp (disch := first|omega|(simp only [zS];first|done|omega)) [bB,cAll,r8_65]
 refine loop_rule (fun m e g' => ∃ i : Nat,i ≤ ll.length ∧ m = ll.length - i ∧ g' = g ∧ e = [(0,v0),(6,v6),(13,av),(28,mv),(36,vi i)])
  ?_ G (ll.length - 0) _ g (by omega) ⟨0,by omega,rfl,rfl,rfl⟩
 rintro m e g' again ⟨i,hi,rfl,rfl,rfl⟩ hag
 rw [l8_83s]
 by_cases hlt : i < ll.length
 ·obtain ⟨l,hl⟩ : ∃ l,ll[i]? = some l := ⟨_,List.getElem?_eq_getElem hlt⟩
  have hlt' : (i : Int) < ll.length := by omega
  have wi : IntKind.i64.wrap ((i : Int) + 1) = ((i + 1 : Nat) : Int) := by rw [wrap_in (by omega) (by omega)];omega
  simp (disch := first|omega|(simp only [zS];first|done|omega)) [bB,r8_66,htl,hlt']
  refine cSts_spec s t hll hl (hM i l hl) hG fun e' => ?_
  simp (disch := first|omega|(simp only [zS];first|done|omega)) [bB,r8_82,wi]
  exact hag (ll.length - (i + 1)) _ _ (by omega) ⟨i + 1,hlt,rfl,rfl,rfl⟩
 ·have : i = ll.length := by omega
  subst this
  simp (disch := first|omega|(simp only [zS];first|done|omega)) [bB,r8_66,htl]
  exact hkn _
end Go.Proofs.YtnoghchcboiojaaGreatDoor
end
section
set_option maxRecDepth 100000
namespace Go.Proofs.YtnoghchcboiojaaGreatDoor
open Go.Ev
open Go.Rn (Bs Ru St PRes)
variable {p : Bool} {F : Nat} {h : H}
def stepsOf : PRes → List St
 | .ok _ l => l
 | _ => []
theorem stepsOf_len (t : Bs) : (stepsOf (Rn.parse t)).length ≤ 400 ∧ ∀ s ∈ stepsOf (Rn.parse t),s.ops.length ≤ 4 := by
 cases hp : Rn.parse t with
 | ok r l => exact Rn.parse_len hp
 | long row => exact ⟨by simp [stepsOf],by simp [stepsOf]⟩
 | bad row => exact ⟨by simp [stepsOf],by simp [stepsOf]⟩
def ParseU (l : List St) (h : H) (w : Value) (h' : H) : Prop := Kept h h' [] ∧ ∃ (a b c d e f : Int) (sv : Value) (n m : Int) (xs : List Stp),l = xs.map (fun x => x.1) ∧ w = .tuple ⟨[.agg ⟨[vi a,vi b,vi c,vi d,vi e,vi f]⟩,sv,vi n,vi m]⟩ ∧ StepsAt h.size h' sv xs
theorem ParseQ.u {z : PRes} {g g' : H} {w : Value} (q : ParseQ z g w g') : ParseU (stepsOf z) g w g' := by
 obtain ⟨k,q⟩ := q
 refine ⟨k,?_⟩
 have he : ∀ n : Int,StepsAt n.toNat g' (.slice none 0 0) [] → True := fun _ _ => trivial
 have e0 : StepsAt g.size g' (.slice none 0 0) [] := ⟨Bld.nil _ _ _ _,by simp,by simp⟩
 cases z with
 | ok r l =>
  obtain ⟨sv,xs,e,_,rfl,s⟩ := q
  exact ⟨_,_,_,_,_,_,sv,0,0,xs,e,rfl,s⟩
 | long row => exact ⟨0,0,0,0,0,0,_,2,row,[],rfl,q,e0⟩
 | bad row => exact ⟨0,0,0,0,0,0,_,180,row,[],rfl,q,e0⟩
def alt (L M : List St) : Nat → List (List St)
 | 0 => []
 | n + 1 => alt L M n ++ [L,M]
theorem alt_len (L M : List St) (n : Nat) : (alt L M n).length = 2 * n := by
 induction n with
 | zero => rfl
 | succ n ih => rw [alt,List.length_append,ih];simp;omega
theorem alt_get (L M : List St) : ∀ (n i : Nat),i < 2 * n → (alt L M n)[i]? = some (if i % 2 = 0 then L else M)
 | 0,i,h => by omega
 | n + 1,i,h => by
  rw [alt]
  by_cases hi : i < 2 * n
  ·rw [List.getElem?_append_left (by rw [alt_len];exact hi)]
   exact alt_get L M n i hi
  ·rw [List.getElem?_append_right (by rw [alt_len];omega),alt_len]
   by_cases h0 : i = 2 * n
   ·subst h0
    rw [Nat.sub_self,if_pos (by omega)]
    rfl
   ·have : i = 2 * n + 1 := by omega
    subst this
    rw [show 2 * n + 1 - 2 * n = 1 by omega,if_neg (by omega)]
    rfl
theorem AllR.tr {κ κ' : Kp} {S : Col → Prop} {g g' : H} {cs : List Value} {x : List St × Nat} (s : AllR κ g cs x) (k : Ch κ S g g') (h1 : ¬ S (cSt x.2)) (h2 : ∀ k,k < x.1.length → ¬ S (cOp x.2 k)) (hk : Agr g.size κ κ') : AllR κ' g' cs x := by
 obtain ⟨v,e,q⟩ := s
 exact ⟨v,e,LW.tr q k h1 h2 hk⟩
theorem n1S (i : Nat) : ¬ (cSt i = 1) := by unfold cSt;omega
theorem n1O (i k : Nat) : ¬ (cOp i k = 1) := by unfold cOp;omega
def pAll : ACode := (.seq (.region r8_7 [0,4,6,10,13]) (.seq (.region r8_8 [0,4,6,10,13,14]) (.block 0 (.loop [0,4,6,10,13,14] l8_14))))
def qAll : ACode := (.seq (.region r8_15 [0,6,10,13,23]) (.block 2 (.loop [0,6,10,13,23] l8_23)))
set_option maxHeartbeats 2000000 in
theorem pAll_spec {rs : List ARes} {c : CF} {dc : DCF} {G : Nat} {n : Nat} {g0 : H} {t u : Bs} {v6 v10 : Value} {L M : List St} (hn : g0.size = n) (hG : 10 < G)
  (e1 : ∀ g1,Kept g0 g1 [] → Ans (c 9 [vs t] g1) fun w h' => ParseU L g1 w h') (e2 : ∀ g1,Kept g0 g1 [] → Ans (c 9 [vs u] g1) fun w h' => ParseU M g1 w h') {re : Env}
  {kn kr : K} {ke : Nat → K} {Q : Value → H → Prop}
  (hkn : ∀ κ g' av (e : Env),Agr n (fun _ => 0) κ → Kept g0 g' [] → AW κ g' av (alt L M 8) → Ans (kn ((0,vs t) :: (4,vs u) :: (6,v6) :: (10,v10) :: (13,av) :: e) g' []) Q) :
  Ans (evC G (cxOf c dc rs) pAll kn ke kr ((0,vs t) :: (4,vs u) :: (6,v6) :: (10,v10) :: re) g0 []) Q := by
 simp (disch := first|omega|(simp only [zS];first|done|omega)) [bB,pAll,r8_7,r8_8]
 refine loop_rule (fun m e g => ∃ (i : Nat) (κ : Kp) (av : Value),i ≤ 8 ∧ m = 8 - i ∧ e = [(0,vs t),(4,vs u),(6,v6),(10,v10),(13,av),(14,vi i)] ∧ Agr n (fun _ => 0) κ ∧ Kept g0 g [] ∧ AW κ g av (alt L M i))
  ?_ G (8 - 0) _ g0 (by omega) ⟨0,fun _ => 0,_,by omega,rfl,rfl,Agr.refl _ _,Kept.refl _ _,Bld.nil _ _ _ _⟩
 rintro m e g again ⟨i,κ,av,hi,rfl,rfl,ha,hk,hA⟩ hag
 by_cases hlt : i < 8
 ·have hlt' : (i : Int) < 8 := by omega
  have wi : IntKind.i64.wrap ((i : Int) + 1) = ((i + 1 : Nat) : Int) := by rw [wrap_in (by omega) (by omega)];omega
  simp (disch := first|omega|(simp only [zS];first|done|omega)) [bB,l8_14,r8_9,hlt',r8_10]
  refine Ans.next (e1 _ hk) ?_
  rintro w g1 ⟨k1,a,b,c',d,e,f,sv,n1,m1,xs,hL,rfl,hS⟩
  have kz := rowKept g1 [vi a,vi b,vi c',vi d,vi e,vi f] 0 []
  have zz : (Ev.newRow g1 [vi a,vi b,vi c',vi d,vi e,vi f] 0 []).size = g1.size + 1 := by simp
  simp (disch := first|omega|(simp only [zS];first|done|omega)) [bB,r8_11]
  generalize Ev.newRow g1 [vi a,vi b,vi c',vi d,vi e,vi f] 0 [] = g2 at *
  have k2 := k1.trans kz
  refine Ans.next (e2 _ (hk.trans k2)) ?_
  rintro w g3 ⟨k3,a2,b2,c2,d2,f2,h2,sv2,n2,m2,ys,hM,rfl,hS2⟩
  have kz2 := rowKept g3 [vi a2,vi b2,vi c2,vi d2,vi f2,vi h2] 0 []
  have zz2 : (Ev.newRow g3 [vi a2,vi b2,vi c2,vi d2,vi f2,vi h2] 0 []).size = g3.size + 1 := by simp
  have hL1 := hS.lw (i := 2 * i) (κ := κ)
  have hM1 := hS2.lw (i := 2 * i + 1) (κ := colr κ g.size (2 * i) xs)
  rw [← hL] at hL1
  rw [← hM] at hM1
  have a1 : Agr g.size κ (colr κ g.size (2 * i) xs) := colr_agr _ _ _ _
  have a2' : Agr g2.size (colr κ g.size (2 * i) xs) (colr (colr κ g.size (2 * i) xs) g2.size (2 * i + 1) ys) := colr_agr _ _ _ _
  have hl1 := hL1.sl.one
  have hl2 := hM1.sl.one
  have vl1 := hL1.sl.vc
  have vl2 := hM1.sl.vc
  have hl1' := hl1
  have hl2' := hl2
  have vl1' := vl1
  have vl2' := vl2
  unfold oneCell at hl1' hl2'
  unfold vcells at vl1' vl2'
  generalize colr κ g.size (2 * i) xs = κ1 at *
  generalize colr κ1 g2.size (2 * i + 1) ys = κ2 at *
  simp (disch := first|omega|(simp only [zS];first|done|omega)) [bB,r8_12]
  generalize Ev.newRow g3 [vi a2,vi b2,vi c2,vi d2,vi f2,vi h2] 0 [] = g4 at *
  have k13 : Kept g1 g4 [] := (kz.trans k3).trans kz2
  have k04 : Kept g g4 [] := k1.trans k13
  have sz1 := k1.1
  have sz2 := k2.1
  have sz3 := k3.1
  have a12 : Agr g1.size κ1 κ2 := fun c hc => a2' c (Nat.lt_of_lt_of_le hc kz.1)
  have a02 : Agr g.size κ κ2 := a1.trans a12 sz1
  have hL2 : LW κ2 (2 * i) g4 sv L := LW.tr hL1 (Ch.of k13 (S := no)) (fun q => q) (fun _ _ q => q) a12
  have hM2 : LW κ2 (2 * i + 1) g4 sv2 M := LW.kept hM1 kz2
  have hA2 : AW κ2 g4 av (alt L M i) := hA.tr (Ch.of k04 (S := no)) (fun q => q) (fun _ _ _ => ⟨fun q => q,fun _ _ q => q⟩) a02
  have a3 : Agr g4.size κ2 (ext κ2 g4.size 1) := Agr.ext (Nat.le_refl _)
  obtain ⟨av',g5,c1,c2',c3,c4⟩ := Bld.appCs hA2 (R2 := AllR (ext κ2 g4.size 1)) (bytes := 24) (new := [sv,sv2]) [(L,2 * i),(M,2 * i + 1)] rfl (by rw [zipI_len,alt_len];simp;omega)
   (fun h' k _ cs j y _ q => q.tr k (n1S _) (fun k _ => n1O _ _) a3)
   fun h' k _ j y hy => by
    match j with
    | 0 =>
     simp at hy
     subst hy
     exact ⟨sv,rfl,LW.tr hL2 k (n1S _) (fun k _ => n1O _ _) a3⟩
    | 1 =>
     simp at hy
     subst hy
     exact ⟨sv2,rfl,LW.tr hM2 k (n1S _) (fun k _ => n1O _ _) a3⟩
    | j + 2 => simp at hy
  have ntx := (Bld.sl hA2).ne_text
  unfold isText at ntx
  simp only [List.length_cons,List.length_nil] at c1
  have hz04 := k04.1
  have ha5 : Agr n (fun _ => 0) (ext κ2 g4.size 1) := ((ha.trans a02 (by rw [← hn];exact hk.1)).trans a3 (by rw [← hn];exact Nat.le_trans hk.1 hz04))
  have k5 : Kept g0 g5 [] := ⟨Nat.le_trans (Nat.le_trans hk.1 hz04) c3.1,fun b hb _ => (c3.2 b (Nat.lt_of_lt_of_le hb (Nat.le_trans hk.1 hz04)) (by rw [a02 b (Nat.lt_of_lt_of_le hb hk.1),ha b (by omega)];exact fun q => nomatch q)).trans ((hk.trans k04).2 b hb (by simp))⟩
  simp (disch := first|omega|(simp only [zS];first|done|omega)) [bB,srcOf,isText,hl1,hl2,hl1',hl2',vl1,vl2,vl1',vl2',fillL,c1,ntx,r8_13,wi]
  refine hag (8 - (i + 1)) _ g5 (by omega) ⟨i + 1,ext κ2 g4.size 1,av',hlt,rfl,rfl,ha5,k5,?_⟩
  show Bld _ 1 _ g5 av' (zipI (alt L M i ++ [L,M]))
  have hz : zipI (alt L M i ++ [L,M]) = zipI (alt L M i) ++ [(L,2 * i),(M,2 * i + 1)] := by
   simp [zipI,List.mapIdx_append,alt_len]
   omega
  rw [hz]
  exact c2'
 ·have : i = 8 := by omega
  subst this
  simp (disch := first|omega|(simp only [zS];first|done|omega)) [bB,l8_14,r8_9]
  exact hkn κ g av _ ha hk hA
end Go.Proofs.YtnoghchcboiojaaGreatDoor
end
section
set_option maxRecDepth 100000
namespace Go.Proofs.YtnoghchcboiojaaGreatDoor
open Go.Ev
open Go.Rn (Bs Ru St PRes)
variable {p : Bool} {F : Nat} {h : H}
set_option maxHeartbeats 2000000 in
theorem qAll_spec {rs : List ARes} {c : CF} {dc : DCF} {G : Nat} {g : H} {v0 av wv tv : Value} {L M : List St} {ok ok' : Nat → Prop} (hA : AS g av (alt L M 8)) (hw : SlR ok 6 StE g wv L) (ht : SlR ok' 6 StE g tv M) (hM2 : M.length = 2) (hG : 16 < G)
  (e : ∀ (ok ok' : Nat → Prop) (v w : Value) (xs : List St),xs = L ∨ xs = M → SlR ok 6 StE g v xs → SlR ok' 6 StE g w xs → c 12 [v,w] g = some (.bool true,g)) {s0 : Env} (h0 : s0.get 0 = v0) (h6 : s0.get 6 = wv) (h10 : s0.get 10 = tv) (h13 : s0.get 13 = av)
  {kn kr : K} {ke : Nat → K} {Q : Value → H → Prop}
  (hkn : ∀ (e : Env),Ans (kn ((0,v0) :: (6,wv) :: (10,tv) :: (13,av) :: e) g []) Q) :
  Ans (evC G (cxOf c dc rs) qAll kn ke kr s0 g []) Q := by
 have hal := hA.len
 rw [alt_len] at hal
 have htl := ht.len
 rw [hM2] at htl
 simp (disch := first|omega|(simp only [zS];first|done|omega)) [bB,qAll,r8_15,h0,h6,h10,h13]
 refine loop_rule (fun m e g' => ∃ i : Nat,i ≤ 16 ∧ m = 16 - i ∧ g' = g ∧ e = [(0,v0),(6,wv),(10,tv),(13,av),(23,vi i)])
  ?_ G (16 - 0) _ g (by omega) ⟨0,by omega,rfl,rfl,rfl⟩
 rintro m e' g' again ⟨i,hi,rfl,rfl,rfl⟩ hag
 by_cases hlt : i < 16
 ·have hlt' : (i : Int) < 16 := by omega
  have wi : IntKind.i64.wrap ((i : Int) + 1) = ((i + 1 : Nat) : Int) := by rw [wrap_in (by omega) (by omega)];omega
  have hl := alt_get L M 8 i (by omega)
  obtain ⟨b,o,c0,cs,es,lv,an,v1,rfl,b1,b2,b3,q⟩ := hA.lst hl
  rw [alt_len] at *
  have hi16 : (i : Int) < ((2 * 8 : Nat) : Int) := by omega
  have hm : (i : Int).tmod 2 = ((i % 2 : Nat) : Int) := by rw [Int.tmod_eq_emod_of_nonneg (by omega)];omega
  by_cases h0 : i % 2 = 0
  ·rw [if_pos h0] at q
   have e1 := e _ _ _ _ _ (.inl rfl) q hw
   have hm0 : ¬ (i : Int).tmod 2 = 1 := by rw [hm,h0];decide
   simp (disch := first|omega|(simp only [zS];first|done|omega)) [bB,l8_23,r8_16,hlt',r8_17,r8_18,hm0,r8_20,b1,b2,b3,e1,aUn,htl,r8_22,wi]
   exact hag (16 - (i + 1)) _ _ (by omega) ⟨i + 1,hlt,rfl,rfl,rfl⟩
  ·rw [if_neg h0] at q
   have e1 := e _ _ _ _ _ (.inr rfl) q ht
   have hm0 : (i : Int).tmod 2 = 1 := by rw [hm,show i % 2 = 1 by omega];rfl
   simp (disch := first|omega|(simp only [zS];first|done|omega)) [bB,l8_23,r8_16,hlt',r8_17,r8_18,hm0,r8_19,r8_20,b1,b2,b3,e1,aUn,htl,r8_22,wi]
   exact hag (16 - (i + 1)) _ _ (by omega) ⟨i + 1,hlt,rfl,rfl,rfl⟩
 ·have : i = 16 := by omega
  subst this
  simp (disch := first|omega|(simp only [zS];first|done|omega)) [bB,l8_23,r8_16,hal]
  exact hkn _
def othT : Bs := [119,111,114,108,100,32,110,111,100,101,115,32,50,32,99,108,105,101,110,116,115,32,49,32,113,117,101,117,101,32,52,32,114,105,110,103,32,49,54,32,119,105,110,100,111,119,32,50,32,108,101,97,115,101,32,48,10,100,111,32,49,32,109,97,107,101,32,47,97,32,34,120,34,32,59,32,100,114,111,112,32,47,98,32,51,10,99,97,108,109,32,50,10]
theorem lit_oth : strL92e4aef3 = ofB othT := nr rfl
theorem condF {α : Type} {x y : α} : (bif false then x else y) = y := nr rfl
theorem oth_two : (stepsOf (Rn.parse othT)).length = 2 := by decide +kernel
theorem a8_split : a8 = ⟨330,(.seq (.region r8_0 [0]) (.seq (.region r8_1 [0,3]) (.seq (.seq (.region r8_2 [0,45]) (.cond (.tmp 45) (.seq (.region r8_3 [2]) .ret) .skip)) (.seq (.region r8_4 [0,4]) (.seq (.region r8_5 [0,4,6]) (.seq (.region r8_6 [0,4,6,10]) (.seq (.region r8_7 [0,4,6,10,13]) (.seq (.seq (.region r8_8 [0,4,6,10,13,14]) (.block 0 (.loop [0,4,6,10,13,14] l8_14))) (.seq qAll (.seq kAll (.seq (.region r8_38 [0,6,13,28]) (.seq (.seq (.region r8_39 [0,6,13,28,29]) (.block 10 (.loop [0,6,13,28,29] l8_64))) (.seq cAll (.seq (.region r8_84 [6,40]) (.seq (.region r8_85 [2]) .ret))))))))))))))),[.tmp 2]⟩ := rfl
theorem assoc_p {F : Nat} {cx : Cx} {x : ACode} {kn kr : K} {ke : Nat → K} : evC F cx (.seq (.region r8_7 [0,4,6,10,13]) (.seq (.seq (.region r8_8 [0,4,6,10,13,14]) (.block 0 (.loop [0,4,6,10,13,14] l8_14))) x)) kn ke kr = evC F cx (.seq pAll x) kn ke kr := nr rfl
theorem assoc_g {F : Nat} {cx : Cx} {x : ACode} {kn kr : K} {ke : Nat → K} : evC F cx (.seq (.region r8_38 [0,6,13,28]) (.seq (.seq (.region r8_39 [0,6,13,28,29]) (.block 10 (.loop [0,6,13,28,29] l8_64))) x)) kn ke kr = evC F cx (.seq gAll x) kn ke kr := nr rfl
theorem marked_fLs {i : Nat} {l : List St} (h1 : l.length ≤ 400) (h2 : ∀ x ∈ l,x.ops.length ≤ 4) : Marked i (fLs i l) := by
 refine ⟨by simpa [fLs] using h1,fun k s hs => ?_⟩
 unfold fLs at hs
 rw [List.getElem?_mapIdx] at hs
 obtain ⟨x,hx,rfl⟩ := Option.map_eq_some_iff.1 hs
 refine ⟨rfl,by simpa [fSt] using h2 x (List.mem_of_getElem? hx),fun j o ho => ?_⟩
 simp only [fSt,List.getElem?_mapIdx] at ho
 obtain ⟨y,hy,rfl⟩ := Option.map_eq_some_iff.1 ho
 rfl
set_option maxHeartbeats 4000000 in
theorem law8 (hG : Glo h) (hR : GloR h) (h14 : 14 ≤ h.size) (hF : 4398046511200 < F) (t : Bs) : Ans (cf true (F + 12) 8 [vs t] h) fun v _ => v = .bool true := by
 rw [cf_step (a := a8) rfl rfl (by simp [a8])]
 have q1 : F + 2 + 9 = F + 11 := by omega
 have q2 : F + 4 + 7 = F + 11 := by omega
 have q3 : F + 9 + 2 = F + 11 := by omega
 have e1 := fun (h1 : H) (k : Kept h h1 []) (t : Bs) => (parse_spec (p := true) (h := h1) (F := F + 2) t (hG.kept0 k) (Nat.le_trans h14 k.1) (by omega)).mono fun _ _ q => q.u
 have e2 := fun (h1 : H) (k : Kept h h1 []) (t : Bs) => (rparse_spec (p := true) (h := h1) (F := F + 4) t (hR.kept k) (by omega)).mono fun _ _ q => q.u
 have e3 := fun (h1 : H) (k : Kept h h1 []) => fixed_spec (h := h1) (F := F) (hG.kept0 k) (Nat.le_trans h14 k.1) hF
 have e4 := fun (h1 : H) (ok ok' : Nat → Prop) (v w : Value) (xs ys : List St) (hx : SlR ok 6 StE h1 v xs) (hy : SlR ok' 6 StE h1 w ys) (hl : xs.length ≤ 400) (ho : ∀ s ∈ xs,s.ops.length ≤ 4) =>
  steps_eq (p := true) (h := h1) (F := F + 9) hx hy (by omega) (by omega) (fun s hs => by have := ho s hs;exact ⟨by omega,by omega⟩)
 rw [q1] at e1
 rw [q2] at e2
 rw [q3] at e4
 have hL := stepsOf_len t
 have hM := stepsOf_len othT
 have hM2 := oth_two
 generalize cf true (F + 11) = c at *
 have e1t := fun (h1 : H) (k : Kept h h1 []) => e1 h1 k t
 have e1o := fun (h1 : H) (k : Kept h h1 []) => e1 h1 k othT
 have e2t := fun (h1 : H) (k : Kept h h1 []) => e2 h1 k t
 have e2o := fun (h1 : H) (k : Kept h h1 []) => e2 h1 k othT
 clear e1 e2
 generalize stepsOf (Rn.parse t) = L at *
 generalize stepsOf (Rn.parse othT) = M at *
 generalize hoT : othT = ot at *
 rw [a8_split]
 simp (disch := first|omega|(simp only [zS];first|done|omega)) [bB,r8_0,r8_1]
 refine Ans.next (e3 _ (Kept.refl _ _)) ?_
 rintro w g1 ⟨k1,rfl⟩
 simp (disch := first|omega|(simp only [zS];first|done|omega)) [bB,r8_2,aUn,r8_4,r8_5,lit_oth,hoT]
 refine Ans.next (e2t _ k1) ?_
 rintro w g2 ⟨k2,a,b,c',d,e,f,sv,n1,m1,xs,hLx,rfl,hS⟩
 simp only [isPan_t4,condF]
 have kz := rowKept g2 [vi a,vi b,vi c',vi d,vi e,vi f] 0 []
 have zz : (Ev.newRow g2 [vi a,vi b,vi c',vi d,vi e,vi f] 0 []).size = g2.size + 1 := by simp
 have one1 := hS.steps.one
 simp (disch := first|omega|(simp only [zS];first|done|omega)) [bB,r8_6]
 generalize Ev.newRow g2 [vi a,vi b,vi c',vi d,vi e,vi f] 0 [] = g3 at *
 have k13 := k1.trans (k2.trans kz)
 refine Ans.next (e2o _ k13) ?_
 rintro w g4 ⟨k4,a2,b2,c2,d2,f2,h2,sv2,n2,m2,ys,hMx,rfl,hS2⟩
 have kz2 := rowKept g4 [vi a2,vi b2,vi c2,vi d2,vi f2,vi h2] 0 []
 have zz2 : (Ev.newRow g4 [vi a2,vi b2,vi c2,vi d2,vi f2,vi h2] 0 []).size = g4.size + 1 := by simp
 simp only [isPan_t4,condF]
 have kL := (k4.trans kz2)
 have sL := hS.steps.kc (kz.trans kL).c (by simp) fun _ _ _ q => q.kc (kz.trans kL).c
 have sM := hS2.steps.kc kz2.c (by simp) fun _ _ _ q => q.kc kz2.c
 rw [← hLx] at sL
 rw [← hMx] at sM
 simp (disch := first|omega|(simp only [zS];first|done|omega)) [↓assoc_p,bB]
 have k5 := k13.trans kL
 generalize Ev.newRow g4 [vi a2,vi b2,vi c2,vi d2,vi f2,vi h2] 0 [] = g5 at *
 refine pAll_spec (L := L) (M := M) rfl (by omega) (fun g k => e1t g (k5.trans k)) (fun g k => e1o g (k5.trans k)) fun κ g6 av en aκ k6 hA => ?_
 have k06 := k5.trans k6
 have sL6 := sL.kc k6.c (by simp) fun _ _ _ q => q.kc k6.c
 have sM6 := sM.kc k6.c (by simp) fun _ _ _ q => q.kc k6.c
 have e4' : ∀ (g : H) (ok ok' : Nat → Prop) (v w : Value) (xs : List St),xs = L ∨ xs = M → SlR ok 6 StE g v xs → SlR ok' 6 StE g w xs → c 12 [v,w] g = some (.bool true,g) := fun g ok ok' v w xs hx h1 h2 => by
  have := e4 g ok ok' v w xs xs h1 h2 (hx.elim (fun e => e ▸ hL.1) (fun e => e ▸ hM.1)) (hx.elim (fun e => e ▸ hL.2) (fun e => e ▸ hM.2))
  rw [this,decide_eq_true rfl]
 simp only [evC_seq]
 refine qAll_spec (v0 := vs t) hA.as sL6 sM6 hM2 (by omega) (e4' g6) rfl rfl rfl rfl fun eq => ?_
 have hal : ∀ l ∈ alt L M 8,l = L ∨ l = M := fun l hl => by
  obtain ⟨i,hi⟩ := List.mem_iff_getElem?.1 hl
  have h16 := (List.getElem?_eq_some_iff.1 hi).1
  rw [alt_len] at h16
  rw [alt_get L M 8 i h16] at hi
  have := Option.some.inj hi
  split at this
  ·exact .inl this.symm
  ·exact .inr this.symm
 have h400 : ∀ l ∈ alt L M 8,l.length ≤ 400 := fun l hl => (hal l hl).elim (fun e => e ▸ hL.1) (fun e => e ▸ hM.1)
 have h4 : ∀ l ∈ alt L M 8,∀ x ∈ l,x.ops.length ≤ 4 := fun l hl => (hal l hl).elim (fun e => e ▸ hL.2) (fun e => e ▸ hM.2)
 refine kAll_spec (v0 := vs t) (v6 := sv) hA h400 h4 (Nat.le_of_eq (alt_len L M 8)) (by omega) rfl rfl rfl fun g7 ek c7 hA7 => ?_
 rw [assoc_g]
 simp only [evC_seq]
 have hmem : ∀ l1 ∈ (alt L M 8).mapIdx fLs,l1.length ≤ 400 ∧ ∀ x ∈ l1,x.ops.length ≤ 4 := fun l1 h1 => by
  obtain ⟨j,h2⟩ := List.mem_iff_getElem?.1 h1
  rw [List.getElem?_mapIdx] at h2
  obtain ⟨l2,h3,rfl⟩ := Option.map_eq_some_iff.1 h2
  have hm := List.mem_of_getElem? h3
  refine ⟨by simpa [fLs] using h400 l2 hm,fun x hx => ?_⟩
  obtain ⟨k,h5⟩ := List.mem_iff_getElem?.1 hx
  unfold fLs at h5
  rw [List.getElem?_mapIdx] at h5
  obtain ⟨x0,h6,rfl⟩ := Option.map_eq_some_iff.1 h5
  simpa [fSt] using h4 l2 hm x0 (List.mem_of_getElem? h6)
 refine gAll_spec hA7 (fun l hl => (hmem l hl).1) (fun l hl => (hmem l hl).2) (Nat.le_of_eq (by rw [List.length_mapIdx,alt_len])) (by omega) fun g8 mv eg c8 k8 hmore => ?_
 refine cAll_spec (hA7.as.kc k8) hmore (Nat.le_of_eq (by rw [List.length_mapIdx,alt_len])) (fun i l hl => ?_) (by omega) fun ec => ?_
 ·rw [List.getElem?_mapIdx] at hl
  obtain ⟨l0,h3,rfl⟩ := Option.map_eq_some_iff.1 hl
  have hm := List.mem_of_getElem? h3
  exact marked_fLs (h400 l0 hm) (h4 l0 hm)
 have k58 : Kept g5 g8 [] := by
  refine ⟨Nat.le_trans (Nat.le_trans k6.1 c7.1) c8.1,fun b hb _ => ?_⟩
  have hb6 := Nat.lt_of_lt_of_le hb k6.1
  have hκ : κ b = 0 := aκ b hb
  rw [c8.2 b (Nat.lt_of_lt_of_le hb6 c7.1) (by rw [hκ];exact fun q => q.elim (fun q => nomatch q) (fun q => nomatch q)),c7.2 b hb6 (by rw [hκ];exact fun q => nomatch q)]
  exact k6.2 b hb (by simp)
 have k08 := k5.trans k58
 have sL8 := sL.kc k58.c (by simp) fun _ _ _ q => q.kc k58.c
 simp (disch := first|omega|(simp only [zS];first|done|omega)) [bB,r8_84]
 refine Ans.next (e1t _ k08) ?_
 rintro w g9 ⟨k9,a3,b3,c3,d3,f3,h3,sv3,n3,m3,zs,hLz,rfl,hS3⟩
 simp only [isPan_t4,condF]
 have kz3 := rowKept g9 [vi a3,vi b3,vi c3,vi d3,vi f3,vi h3] 0 []
 have sL9 := sL8.kc (k9.trans kz3).c (by simp) fun _ _ _ q => q.kc (k9.trans kz3).c
 have s3 := hS3.steps.kc kz3.c (by simp) fun _ _ _ q => q.kc kz3.c
 rw [← hLz] at s3
 have e5 := e4' _ _ _ _ _ _ (.inl rfl) s3 sL9
 simp (disch := first|omega|(simp only [zS];first|done|omega)) [bB]
 generalize Ev.newRow g9 [vi a3,vi b3,vi c3,vi d3,vi f3,vi h3] 0 [] = g10 at *
 simp (disch := first|omega|(simp only [zS];first|done|omega)) [bB,r8_85,e5]
 exact Ans.of rfl
end Go.Proofs.YtnoghchcboiojaaGreatDoor
end
