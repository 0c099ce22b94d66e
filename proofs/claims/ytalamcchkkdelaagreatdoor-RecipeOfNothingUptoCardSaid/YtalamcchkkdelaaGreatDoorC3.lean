/- Texts of the proofs over heraldlaw20, put together by a program (merge20.py): Ev3 Ev4 Ev5 Ev6. -/
import Derived.Test.YtalamcchkkdelaaGreatDoorC2
import Derived.Laws.Rows
import Derived.Laws.Entries
set_option linter.unusedVariables false
set_option linter.unusedSimpArgs false
namespace Go.Ev
def Does (P : Program) (o : Oper) (a : Act) (w : World) (v : Value) (w' : World) : Prop :=
 (execOp a.eval o).run P w = .ok (.value v) w' ∨ ((execOp a.eval o).run P w = .ok .skip w' ∧ v = undef)
def Good (P : Program) (o : Oper) (ρ : Ren) (h : H) (a : Act) (w : World) (v : Value) (h' : H) : Prop :=
 ∃ v' ρ' w',Does P o a w v' w' ∧ VR ρ' v v' ∧ Rel ρ' h' w' ∧ Ext ρ h w ρ' h' w'
theorem Good.same {P : Program} {o : Oper} {ρ : Ren} {h : H} {a : Act} {w : World} {v v' : Value} (r : Rel ρ h w) (hv : VR ρ v v') (e : (execOp a.eval o).run P w = .ok (.value v') w) : Good P o ρ h a w v h :=
 ⟨v',ρ,w,.inl e,hv,r,.refl _ _ _⟩
variable {P : Program} {ρ : Ren} {h : H} {a : Act} {w : World} {s : Env} {n : Nat}
theorem VR.bool_inv {v' : Value} {b : Bool} (h : VR ρ (.bool b) v') : v' = .bool b := by cases h;rfl
theorem VR.int_inv {v' : Value} {k : IntKind} {m : Int} (h : VR ρ (.int k m) v') : v' = .int k m := by cases h;rfl
theorem VR.string_inv {v' : Value} {t : ByteArray} (h : VR ρ (.string t) v') : v' = .string t := by cases h;rfl
theorem VR.ptr_inv {v' : Value} {b o : Nat} (h : VR ρ (.pointer (some ⟨b,o,none⟩)) v') : ∃ i,ρ b = some i ∧ v' = .pointer (some ⟨i.blk,o + i.sh,none⟩) := by
 cases h;exact ⟨_,by assumption,rfl⟩
theorem VR.agg_inv {v' : Value} {l : List Value} (h : VR ρ (.agg ⟨l⟩) v') : ∃ l',v' = .agg ⟨l'⟩ ∧ VRs ρ l l' := by
 cases h;exact ⟨_,rfl,by assumption⟩
theorem VR.tuple_inv {v' : Value} {l : List Value} (h : VR ρ (.tuple ⟨l⟩) v') : ∃ l',v' = .tuple ⟨l'⟩ ∧ VRs ρ l l' := by
 cases h;exact ⟨_,rfl,by assumption⟩
theorem VR.slice_inv {v' : Value} {b o n c : Nat} (h : VR ρ (.slice (some ⟨b,o,none⟩) n c) v') :
  ∃ i o' c',ρ b = some i ∧ v' = .slice (some ⟨i.blk,o',none⟩) n c' ∧ n ≤ c ∧ c ≤ c' ∧ (c' - c) * i.es ≤ i.room ∧ (o' = o + i.sh ∨ c' = 0) := by
 cases h;exact ⟨_,_,_,by assumption,rfl,by assumption,by assumption,by assumption,by assumption⟩
theorem VR.snil_inv {v' : Value} {n c : Nat} (h : VR ρ (.slice none n c) v') : n = 0 ∧ c = 0 ∧ v' = .slice none 0 0 := by
 cases h;exact ⟨rfl,rfl,rfl⟩
theorem VR.map_inv {v' : Value} {b : Nat} (h : VR ρ (.map (some b)) v') : ∃ i,ρ b = some i ∧ v' = .map (some i.blk) := by
 cases h;exact ⟨_,by assumption,rfl⟩
theorem VR.mnil_inv {v' : Value} (h : VR ρ (.map none) v') : v' = .map none := by cases h;rfl
theorem good_move (o : Oper) (x : Operand) (ho : o.op = .move x ∨ o.op = .assign x) (r : Rel ρ h w) (he : EnvRel ρ n s a.tmps) : Good P o ρ h a w (aeval s x) h := by
 refine .same r (aeval_sound he x) ?_
 rcases ho with e | e <;> simp [execOp,e]
theorem good_pick (o : Oper) (c x y : Operand) (ho : o.op = .pick c x y) (r : Rel ρ h w) (he : EnvRel ρ n s a.tmps) {t : Bool} (hc : aeval s c = .bool t) : Good P o ρ h a w (bif t then aeval s x else aeval s y) h := by
 have h1 := aeval_sound he c
 rw [hc] at h1
 have h2 := h1.bool_inv
 cases t
 ·exact .same r (aeval_sound he y) (by simp [execOp,ho,h2,asBool])
 ·exact .same r (aeval_sound he x) (by simp [execOp,ho,h2,asBool])
theorem run_intBin (op : BinOp) (t : TypeId) (k : IntKind) (x y : Int) {v : Value} (hop : op ≠ .shl ∧ op ≠ .shr) (e : intBin op k x y = some v) : (binOp op t (.int k x) (.int k y)).run P w = .ok v w := by
 cases op <;> simp [intBin,binOp,Op.intArith,Op.intDiv,Op.intBits,Op.intCmp] at e hop ⊢ <;> first
  | exact e
  | (obtain ⟨h0,rfl⟩ := e;simp [h0])
theorem run_intShift (op : BinOp) (t : TypeId) (k yk : IntKind) (x y : Int) {v : Value} (hop : op = .shl ∨ op = .shr) (e : intShift op k x y = some v) : (binOp op t (.int k x) (.int yk y)).run P w = .ok v w := by
 rcases hop with rfl | rfl <;> simp [intShift,binOp,Op.shift] at e ⊢ <;>
  (obtain ⟨h0,rfl⟩ := e;simp [Int.not_lt.2 h0])
theorem run_strBin (op : BinOp) (t : TypeId) (x y : ByteArray) {v : Value} (e : strBin op x y = some v) : (binOp op t (.string x) (.string y)).run P w = .ok v w := by
 have hb := beq_toListBytes x y
 cases op <;> simp [strBin,binOp,Op.stringOp,hb,bne] at e ⊢ <;> first
  | exact e
  | (obtain ⟨h0,rfl⟩ := e
     simp [h0])
theorem run_intEq (d : Nat) (t : TypeId) (k : IntKind) (hu : P.underlying t = some (.int k)) (q : IntKind) (x y : Int) : (Op.equalIn (d + 1) t (.int q x) (.int q y)).run P w = .ok (x == y) w := by
 simp [Op.equalIn,run_underlying hu]
def EK.fits : EK → TypeDesc → Bool
 | .bool,.bool => true
 | .ptr,.pointer _ => true
 | .slice,.slice _ => true
 | .map,.map _ _ => true
 | .func,.func _ _ _ => true
 | _,_ => false
set_option maxHeartbeats 1000000 in
theorem run_nilEq (t : TypeId) {d : TypeDesc} (hu : P.underlying t = some d) {k : EK} (hk : k.fits d = true) {x y x' y' : Value} (hx : VR ρ x x') (hy : VR ρ y y') {r : Bool} (e : nilEq k x y = some r) :
  (Op.equal t x' y').run P w = .ok r w := by
 show (Op.equalIn (9999 + 1) t x' y').run P w = .ok r w
 generalize 9999 = dd
 unfold nilEq at e
 split at e <;> simp at e <;> subst e <;> cases d <;> simp [EK.fits] at hk <;> cases hx <;> cases hy <;> simp [Op.equalIn,run_underlying hu]
def plainEq : Value → Bool
 | .nilIface | .agg _ => false
 | _ => true
theorem run_eqGuard (op : BinOp) (t : TypeId) (x y : Operand) {u v : Value} (hu : plainEq u = true) : (eqGuard op t x y u v).run P w = .ok () w := by
 by_cases hop : op = .eql ∨ op = .neq
 ·cases u <;> simp [plainEq] at hu <;> rcases hop with rfl | rfl <;> simp [eqGuard]
 ·cases op <;> simp at hop <;> simp [eqGuard]
theorem good_bin (o : Oper) (op : BinOp) (t ty : TypeId) (x y : Operand) (ho : o.op = .binOp op t x y ty) (r : Rel ρ h w) (he : EnvRel ρ n s a.tmps) {v : Value} (e : aBin op (aeval s x) (aeval s y) = some v) : Good P o ρ h a w v h := by
 have h1 := aeval_sound he x
 have h2 := aeval_sound he y
 generalize aeval s x = u1 at *
 generalize aeval s y = u2 at *
 unfold aBin at e
 split at e
 ·rename_i k i k' j
  have e1 := h1.int_inv
  have e2 := h2.int_inv
  have hres : ∀ {v},(binOp op t (.int k i) (.int k' j)).run P w = .ok v w → (execOp a.eval o).run P w = .ok (.value v) w := by
   intro v hv
   simp [execOp,ho,e1,e2,run_eqGuard (P := P) (w := w) op t x y (u := .int k i) (v := .int k' j) rfl,hv]
  have hv : ∃ q z,v = .int q z ∨ ∃ b,v = .bool b := by
   split at e
   ·simp [intShift] at e;exact ⟨_,_,.inl e.2.symm⟩
   ·simp [intShift] at e;exact ⟨_,_,.inl e.2.symm⟩
   ·split at e
    ·cases op <;> simp [intBin] at e <;> first
      | exact ⟨k,0,.inr ⟨_,e.symm⟩⟩
      | exact ⟨_,_,.inl e.symm⟩
      | exact ⟨_,_,.inl e.2.symm⟩
    ·cases e
  have hvr : VR ρ v v := by
   obtain ⟨q,z,rfl | ⟨b,rfl⟩⟩ := hv
   ·exact .int _ _
   ·exact .bool _
  refine .same r hvr (hres ?_)
  split at e
  ·exact run_intShift .shl t k k' i j (.inl rfl) e
  ·exact run_intShift .shr t k k' i j (.inr rfl) e
  ·rename_i n1 n2
   split at e
   ·rename_i hk;subst hk
    exact run_intBin op t k i j ⟨n1,n2⟩ e
   ·cases e
 ·rename_i i j
  have e1 := h1.string_inv
  have e2 := h2.string_inv
  have hvr : VR ρ v v := by
   cases op <;> simp [strBin] at e <;> first
    | (subst e;exact .bool _)
    | (obtain ⟨_,rfl⟩ := e;exact .string _)
  refine .same r hvr ?_
  simp [execOp,ho,e1,e2,run_eqGuard (P := P) (w := w) op t x y (u := .string i) (v := .string j) rfl,run_strBin (P := P) (w := w) op t i j e]
 ·cases e
theorem good_eqNil (o : Oper) (neg : Bool) (t ty : TypeId) (x y : Operand) (ho : o.op = .binOp (if neg then .neq else .eql) t x y ty) {d : TypeDesc} (hu : P.underlying t = some d) {k : EK} (hk : k.fits d = true) (r : Rel ρ h w) (he : EnvRel ρ n s a.tmps)
  {q : Bool} (e : nilEq k (aeval s x) (aeval s y) = some q) : Good P o ρ h a w (.bool (if neg then !q else q)) h := by
 have h1 := aeval_sound he x
 have h2 := aeval_sound he y
 have hr := run_nilEq (P := P) (w := w) t hu hk h1 h2 e
 refine .same r (.bool _) ?_
 have key : plainEq (a.eval x) = true ∧ ∀ op,op = .eql ∨ op = .neq → (binOp op t (a.eval x) (a.eval y)).run P w = .ok (.bool (if op = .neq then !q else q)) w := by
  generalize aeval s x = u1 at *
  generalize aeval s y = u2 at *
  generalize a.eval x = v1 at *
  generalize a.eval y = v2 at *
  unfold nilEq at e
  split at e <;> simp at e <;> cases h1 <;> cases h2 <;> refine ⟨rfl,fun op hop => ?_⟩ <;> rcases hop with rfl | rfl <;> simp_all [binOp]
 obtain ⟨g1,g2⟩ := key
 cases neg
 ·have := g2 .eql (.inl rfl)
  simp at this
  simp [execOp,ho,run_eqGuard (P := P) (w := w) .eql t x y (v := a.eval y) g1,this]
 ·have := g2 .neq (.inr rfl)
  simp at this
  simp [execOp,ho,run_eqGuard (P := P) (w := w) .neq t x y (v := a.eval y) g1,this]
end Go.Ev
namespace Go.Ev
variable {P : Program} {ρ : Ren} {h : H} {a : Act} {w : World} {s : Env} {n : Nat}
def isRowB (P : Program) (t : TypeId) : Option Bool :=
 match P.underlying t with
 | some (.struct _) | some (.array _ _) => some true
 | some _ => some false
 | none => none
def szOf (P : Program) (t : TypeId) : Option Nat := (P.info? t).map (·.size)
theorem run_isAgg {t : TypeId} {b : Bool} (e : isRowB P t = some b) : (isAgg t).run P w = .ok b w := by
 unfold isRowB at e
 cases hu : P.underlying t with
 | none => rw [hu] at e;cases e
 | some d =>
  rw [hu] at e
  cases d <;> simp at e <;> subst e <;> simp [isAgg,run_underlying hu]
theorem run_sizeOf' {t : TypeId} {m : Nat} (e : szOf P t = some m) : (sizeOf t).run P w = .ok m w := by
 unfold szOf at e
 cases hi : P.info? t with
 | none => rw [hi] at e;cases e
 | some i => rw [hi] at e;cases e;simp [sizeOf,typeInfo,hi]
theorem run_part_row {t : TypeId} (hb : isRowB P t = some true) {m : Nat} (hm : szOf P t = some m) (cs : List Value) (off : Nat) :
  (part t ⟨cs⟩ off).run P w = .ok (.agg ⟨(cs.drop off).take m⟩) w := by
 simp only [part,Sem.run_bind,run_isAgg hb,Result.andThen_ok,if_true,run_sizeOf' hm,Sem.run_pure]
 simp [List.take_drop,Nat.add_comm]
theorem run_part_cell {t : TypeId} (hb : isRowB P t = some false) (cs : List Value) (off : Nat) {v : Value} (hv : cs[off]? = some v) :
  (part t ⟨cs⟩ off).run P w = .ok v w := by
 simp only [part,Sem.run_bind,run_isAgg hb,Result.andThen_ok]
 simp [hv]
def flatFs (fk : TypeId → Option (List CK)) : List Field → Nat → Option (List CK)
 | [],_ => some []
 | f :: r,off =>
  if f.name ≠ "_" ∧ f.offset = off then
   match fk f.type with
   | some ks => match flatFs fk r (off + ks.length) with
    | some l => some (ks ++ l)
    | none => none
   | none => none
  else none
def flatK (P : Program) : Nat → TypeId → Option (List CK)
 | 0,_ => none
 | n + 1,t =>
  match P.underlying t with
  | some (.int _) => some [.int]
  | some .string => some [.str]
  | some .bool => some [.bool]
  | some (.struct fs) => if P.stoodInHeld t then none else match flatFs (flatK P n) fs.toList 0 with
   | some l => if szOf P t = some l.length then some l else none
   | none => none
  | _ => none
theorem cellsEq_app : ∀ {ks : List CK} {l : List CK} {xs ys : List Value} {r : Bool},cellsEq (ks ++ l) xs ys = some r →
  ∃ r1 r2,cellsEq ks (xs.take ks.length) (ys.take ks.length) = some r1 ∧ cellsEq l (xs.drop ks.length) (ys.drop ks.length) = some r2 ∧ r = (r1 && r2)
 | [],l,xs,ys,r,e => ⟨true,r,by simp [cellsEq],by simpa using e,by simp⟩
 | k :: ks,l,[],ys,r,e => by simp [cellsEq] at e
 | k :: ks,l,x :: xs,[],r,e => by simp [cellsEq] at e
 | k :: ks,l,x :: xs,y :: ys,r,e => by
  simp only [List.cons_append,cellsEq] at e
  cases h1 : cellEq k x y with
  | none => rw [h1] at e;simp at e
  | some r0 =>
   cases h2 : cellsEq (ks ++ l) xs ys with
   | none => rw [h1,h2] at e;simp at e
   | some q =>
    rw [h1,h2] at e
    obtain ⟨r1,r2,g1,g2,g3⟩ := cellsEq_app h2
    refine ⟨r0 && r1,r2,by simp [cellsEq,h1,g1],by simpa using g2,?_⟩
    subst g3
    simp at e;subst e
    simp [Bool.and_assoc]
theorem cellsEq_len : ∀ {ks : List CK} {xs ys : List Value} {r : Bool},cellsEq ks xs ys = some r → xs.length = ks.length ∧ ys.length = ks.length
 | [],[],[],_,_ => ⟨rfl,rfl⟩
 | [],_ :: _,_,_,e => by simp [cellsEq] at e
 | [],[],_ :: _,_,e => by simp [cellsEq] at e
 | _ :: _,[],_,_,e => by simp [cellsEq] at e
 | _ :: _,_ :: _,[],_,e => by simp [cellsEq] at e
 | k :: ks,x :: xs,y :: ys,r,e => by
  simp only [cellsEq] at e
  cases h1 : cellEq k x y with
  | none => rw [h1] at e;simp at e
  | some r0 =>
   cases h2 : cellsEq ks xs ys with
   | none => rw [h1,h2] at e;simp at e
   | some q => have := cellsEq_len h2;simp [this]
theorem single {xs : List Value} (h : xs.length = 1) : ∃ x,xs = [x] := by
 match xs,h with
 | [x],_ => exact ⟨x,rfl⟩
theorem flat_run : ∀ (m : Nat) (t : TypeId) (ks : List CK),flatK P m t = some ks → ∀ (xs ys : List Value) (r : Bool),cellsEq ks xs ys = some r → ∀ d,m ≤ d →
  szOf P t = szOf P t ∧ ((isRowB P t = some true ∧ szOf P t = some ks.length ∧ (Op.equalIn (d + 1) t (.agg ⟨xs⟩) (.agg ⟨ys⟩)).run P w = .ok r w) ∨
   (isRowB P t = some false ∧ ks.length = 1 ∧ ∃ x y,xs = [x] ∧ ys = [y] ∧ (Op.equalIn (d + 1) t x y).run P w = .ok r w))
 | 0,t,ks,hk => by simp [flatK] at hk
 | m + 1,t,ks,hk => by
  intro xs ys r e d hd
  refine ⟨rfl,?_⟩
  unfold flatK at hk
  cases hu : P.underlying t with
  | none => rw [hu] at hk;simp at hk
  | some dd =>
   rw [hu] at hk
   obtain ⟨l1,l2⟩ := cellsEq_len e
   cases dd <;> simp at hk
   case bool =>
    subst hk
    obtain ⟨x,rfl⟩ := single l1
    obtain ⟨y,rfl⟩ := single l2
    refine .inr ⟨by simp [isRowB,hu],rfl,x,y,rfl,rfl,?_⟩
    cases x <;> cases y <;> simp [cellsEq,cellEq] at e
    subst e;simp [Op.equalIn,run_underlying hu]
   case int =>
    subst hk
    obtain ⟨x,rfl⟩ := single l1
    obtain ⟨y,rfl⟩ := single l2
    refine .inr ⟨by simp [isRowB,hu],rfl,x,y,rfl,rfl,?_⟩
    cases x <;> cases y <;> simp [cellsEq,cellEq] at e
    rename_i k1 n1 k2 n2
    by_cases hkk : k1 = k2
    ·subst hkk;simp at e;subst e;simp [Op.equalIn,run_underlying hu]
    ·simp [hkk] at e
   case string =>
    subst hk
    obtain ⟨x,rfl⟩ := single l1
    obtain ⟨y,rfl⟩ := single l2
    refine .inr ⟨by simp [isRowB,hu],rfl,x,y,rfl,rfl,?_⟩
    cases x <;> cases y <;> simp [cellsEq,cellEq] at e
    subst e;simp [Op.equalIn,run_underlying hu,beq_toListBytes]
   case struct fs =>
    obtain ⟨hst,hk⟩ := hk
    cases hf : flatFs (flatK P m) fs.toList 0 with
    | none => rw [hf] at hk;simp at hk
    | some l =>
     rw [hf] at hk;simp at hk
     obtain ⟨hsz,rfl⟩ := hk
     refine .inl ⟨by simp [isRowB,hu],hsz,?_⟩
     obtain ⟨d,rfl⟩ : ∃ q,d = q + 1 := ⟨d - 1,by omega⟩
     have hfo : P.fieldsOf t = fs := by simp [Program.fieldsOf,hu]
     rw [run_equalIn_struct w (d + 1) t ⟨xs⟩ ⟨ys⟩ (by rw [hfo];exact hu) hst,hfo]
     have key : ∀ (fl : List Field) (off : Nat) (l : List CK) (r : Bool),flatFs (flatK P m) fl off = some l → cellsEq l (xs.drop off) (ys.drop off) = some r →
       (Op.eqFields (d + 1) ⟨xs⟩ ⟨ys⟩ fl).run P w = .ok r w := by
      intro fl
      induction fl with
      | nil =>
       intro off l r e1 e2
       simp [flatFs] at e1;subst e1
       cases hx : xs.drop off <;> cases hy : ys.drop off <;> rw [hx,hy] at e2 <;> simp [cellsEq] at e2
       subst e2;simp [Op.eqFields]
      | cons f fl ih =>
       intro off l r e1 e2
       unfold flatFs at e1
       split at e1
       ·rename_i hn
        obtain ⟨hn,hoff⟩ := hn
        cases hk1 : flatK P m f.type with
        | none => rw [hk1] at e1;simp at e1
        | some ks1 =>
         rw [hk1] at e1;simp only at e1
         cases hk2 : flatFs (flatK P m) fl (off + ks1.length) with
         | none => rw [hk2] at e1;simp at e1
         | some l2 =>
          rw [hk2] at e1;simp at e1;subst e1
          obtain ⟨r1,r2,g1,g2,rfl⟩ := cellsEq_app e2
          rw [List.drop_drop,List.drop_drop] at g2
          have ih' := ih (off + ks1.length) l2 r2 hk2 g2
          obtain ⟨_,hfield⟩ := flat_run m f.type ks1 hk1 _ _ r1 g1 d (by omega)
          rw [Op.eqFields,if_pos hn]
          rcases hfield with ⟨b1,b2,b3⟩ | ⟨b1,b2,x,y,b3,b4,b5⟩
          ·simp only [Sem.run_bind,hoff,run_part_row b1 b2,Result.andThen_ok,b3]
           cases r1
           ·simp
           ·simpa using ih'
          ·have hx : xs[off]? = some x := by
            have := congrArg (·[0]?) b3
            simpa [b2] using this
           have hy : ys[off]? = some y := by
            have := congrArg (·[0]?) b4
            simpa [b2] using this
           simp only [Sem.run_bind,hoff,run_part_cell b1 _ _ hx,run_part_cell b1 _ _ hy,Result.andThen_ok,b5]
           cases r1
           ·simp
           ·simpa using ih'
       ·cases e1
     exact key fs.toList 0 l r hf (by simpa using e)
theorem cellsEq_VRs : ∀ {ks : List CK} {xs ys xs' ys' : List Value} {r : Bool},cellsEq ks xs ys = some r → VRs ρ xs xs' → VRs ρ ys ys' → cellsEq ks xs' ys' = some r
 | [],[],[],_,_,_,e,.nil,.nil => e
 | [],_ :: _,_,_,_,_,e,_,_ => by simp [cellsEq] at e
 | [],[],_ :: _,_,_,_,e,_,_ => by simp [cellsEq] at e
 | _ :: _,[],_,_,_,_,e,_,_ => by simp [cellsEq] at e
 | _ :: _,_ :: _,[],_,_,_,e,_,_ => by simp [cellsEq] at e
 | k :: ks,x :: xs,y :: ys,_,_,r,e,.cons hx tx,.cons hy ty => by
  simp only [cellsEq] at e ⊢
  cases h1 : cellEq k x y with
  | none => rw [h1] at e;simp at e
  | some r0 =>
   cases h2 : cellsEq ks xs ys with
   | none => rw [h1,h2] at e;simp at e
   | some q =>
    rw [h1,h2] at e
    have h3 := cellsEq_VRs h2 tx ty
    have h4 : ∀ {x' y'},VR ρ x x' → VR ρ y y' → cellEq k x' y' = some r0 := by
     intro x' y' hx hy
     unfold cellEq at h1
     split at h1 <;> cases hx <;> cases hy <;> simp_all [cellEq]
    rw [h4 hx hy,h3];exact e
theorem good_eqAgg (o : Oper) (neg : Bool) (t ty : TypeId) (x y : Operand) (ho : o.op = .binOp (if neg then .neq else .eql) t x y ty) {ks : List CK} (hk : flatK P 20 t = some ks) (hg : P.eqGuardType P.depth t = false) (r : Rel ρ h w) (he : EnvRel ρ n s a.tmps)
  {u v : List Value} (hu : aeval s x = .agg ⟨u⟩) (hv : aeval s y = .agg ⟨v⟩) {q : Bool} (e : cellsEq ks u v = some q) (hrow : isRowB P t = some true) : Good P o ρ h a w (.bool (if neg then !q else q)) h := by
 have h1 := aeval_sound he x
 have h2 := aeval_sound he y
 rw [hu] at h1;rw [hv] at h2
 obtain ⟨u',e1,g1⟩ := h1.agg_inv
 obtain ⟨v',e2,g2⟩ := h2.agg_inv
 have e' := cellsEq_VRs e g1 g2
 have heq : (Op.equal t (.agg ⟨u'⟩) (.agg ⟨v'⟩)).run P w = .ok q w := by
  show (Op.equalIn (9999 + 1) t _ _).run P w = .ok q w
  obtain ⟨_,hh⟩ := flat_run (w := w) 20 t ks hk u' v' q e' 9999 (by omega)
  rcases hh with ⟨_,_,h3⟩ | ⟨h3,_⟩
  ·exact h3
  ·rw [hrow] at h3;cases h3
 have hguard : ∀ op,(eqGuard op t x y (.agg ⟨u'⟩) (.agg ⟨v'⟩)).run P w = .ok () w := by
  intro op
  by_cases hop : op = .eql ∨ op = .neq
  ·rcases hop with rfl | rfl <;> simp [eqGuard,hg]
  ·cases op <;> simp at hop <;> simp [eqGuard]
 refine .same r (.bool _) ?_
 cases neg
 ·simp [execOp,ho,e1,e2,hguard,binOp,heq]
 ·simp [execOp,ho,e1,e2,hguard,binOp,heq]
end Go.Ev
namespace Go.Ev
variable {P : Program} {ρ : Ren} {h : H} {a : Act} {w : World} {s : Env} {n : Nat}
theorem good_un (o : Oper) (op : UnOp) (t : TypeId) (x : Operand) (ho : o.op = .unOp op t x) (r : Rel ρ h w) (he : EnvRel ρ n s a.tmps) {v : Value} (e : aUn op (aeval s x) = some v) : Good P o ρ h a w v h := by
 have h1 := aeval_sound he x
 generalize aeval s x = u at *
 unfold aUn at e
 split at e <;> simp at e <;> subst e
 ·have e1 := h1.int_inv
  exact .same r (.int _ _) (by simp [execOp,ho,e1,Op.unary,Op.intArith])
 ·have e1 := h1.bool_inv
  exact .same r (.bool _) (by simp [execOp,ho,e1,Op.unary])
theorem good_convInt (o : Oper) (src dst : TypeId) (x : Operand) (ho : o.op = .convert src dst x) {d : TypeDesc} (hs : P.underlying src = some d) {k : IntKind} (hd : P.underlying dst = some (.int k)) (r : Rel ρ h w) (he : EnvRel ρ n s a.tmps)
  {q : IntKind} {m : Int} (e : aeval s x = .int q m) : Good P o ρ h a w (.int k (k.wrap m)) h := by
 have h1 := aeval_sound he x
 rw [e] at h1
 have e1 := h1.int_inv
 refine .same r (.int _ _) ?_
 cases d <;> simp [execOp,ho,e1,convert,run_underlying hs,run_underlying hd,Conv.intToInt]
theorem good_convSame (o : Oper) (src dst : TypeId) (x : Operand) (ho : o.op = .convert src dst x) {d : TypeDesc} (hs : P.underlying src = some d) (hd : P.underlying dst = some .string) (hds : d = .string) (r : Rel ρ h w) (he : EnvRel ρ n s a.tmps)
  {t : ByteArray} (e : aeval s x = .string t) : Good P o ρ h a w (.string t) h := by
 have h1 := aeval_sound he x
 rw [e] at h1
 have e1 := h1.string_inv
 subst hds
 exact .same r (.string _) (by simp [execOp,ho,e1,convert,run_underlying hs,run_underlying hd])
theorem good_func (o : Oper) (fn : Fn) (fs cs : Array Operand) (ho : o.op = .makeFunc fn fs cs) (r : Rel ρ h w) (he : EnvRel ρ n s a.tmps) :
  Good P o ρ h a w (.func fn ⟨fs.toList.map (aeval s)⟩ ⟨cs.toList.map (aeval s)⟩) h := by
 refine .same r (.func (aeval_map he fs.toList) (aeval_map he cs.toList)) ?_
 simp only [execOp,ho,Instr.makeFunc,Sem.run_bind,Sem.run_pure,Result.andThen_ok]
 congr 2
 congr 1 <;> (apply Array.ext';simp)
theorem good_extract (o : Oper) (x : Operand) (i : Nat) (ho : o.op = .extract x i) (r : Rel ρ h w) (he : EnvRel ρ n s a.tmps) {l : List Value} (e : aeval s x = .tuple ⟨l⟩) {v : Value} (hv : l[i]? = some v) : Good P o ρ h a w v h := by
 have h1 := aeval_sound he x
 rw [e] at h1
 obtain ⟨l',e1,g⟩ := h1.tuple_inv
 obtain ⟨v',g1,g2⟩ := g.get hv
 exact .same r g2 (by simp [execOp,ho,e1,Instr.extract,g1])
theorem good_fieldCell (o : Oper) (t : TypeId) (x : Operand) (i : Nat) (ho : o.op = .field t x i) {fs : Array Field} (ht : P.underlying t = some (.struct fs)) {f : Field} (hf : fs[i]? = some f) (hb : isRowB P f.type = some false) (r : Rel ρ h w) (he : EnvRel ρ n s a.tmps)
  {l : List Value} (e : aeval s x = .agg ⟨l⟩) {v : Value} (hv : l[f.offset]? = some v) : Good P o ρ h a w v h := by
 have h1 := aeval_sound he x
 rw [e] at h1
 obtain ⟨l',e1,g⟩ := h1.agg_inv
 obtain ⟨v',g1,g2⟩ := g.get hv
 exact .same r g2 (by simp [execOp,ho,e1,Instr.field,run_underlying ht,hf,asAgg,run_part_cell (P := P) (w := w) hb l' _ g1])
theorem good_fieldRow (o : Oper) (t : TypeId) (x : Operand) (i : Nat) (ho : o.op = .field t x i) {fs : Array Field} (ht : P.underlying t = some (.struct fs)) {f : Field} (hf : fs[i]? = some f) (hb : isRowB P f.type = some true) {m : Nat} (hm : szOf P f.type = some m)
  (r : Rel ρ h w) (he : EnvRel ρ n s a.tmps) {l : List Value} (e : aeval s x = .agg ⟨l⟩) : Good P o ρ h a w (.agg ⟨(l.drop f.offset).take m⟩) h := by
 have h1 := aeval_sound he x
 rw [e] at h1
 obtain ⟨l',e1,g⟩ := h1.agg_inv
 exact .same r (.agg ((g.drop f.offset).take m)) (by simp [execOp,ho,e1,Instr.field,run_underlying ht,hf,asAgg,run_part_row (P := P) (w := w) hb hm l'])
theorem good_indexStr (o : Oper) (t : TypeId) (x i : Operand) (ho : o.op = .index t x i) (ht : P.underlying t = some .string) (r : Rel ρ h w) (he : EnvRel ρ n s a.tmps) {b : ByteArray} (e : aeval s x = .string b) {k : IntKind} {j : Int} (ei : aeval s i = .int k j)
  (hj : 0 ≤ j) {c : UInt8} (hc : b.data[j.toNat]? = some c) : Good P o ρ h a w (.int .u8 c.toNat) h := by
 have h1 := aeval_sound he x
 rw [e] at h1
 have h2 := aeval_sound he i
 rw [ei] at h2
 have e1 := h1.string_inv
 have e2 := h2.int_inv
 have hc' : b[j.toNat]? = some c := by
  have hlt : j.toNat < b.size := (Array.getElem?_eq_some_iff.1 hc).1
  rw [getElem?_pos b j.toNat hlt]
  have := (Array.getElem?_eq_some_iff.1 hc).2
  rw [← this];rfl
 exact .same r (.int _ _) (by simp [execOp,ho,e1,e2,Instr.index,asIntOf,run_underlying ht,hj,hc'])
theorem good_lenStr (o : Oper) (x : Operand) (t : TypeId) (ho : o.op = .call { callee := .builtin .len,args := #[x],argTypes := #[t] }) (ht : P.underlying t = some .string) (r : Rel ρ h w) (he : EnvRel ρ n s a.tmps) {b : ByteArray} (e : aeval s x = .string b) :
  Good P o ρ h a w (.int .i64 b.size) h := by
 have h1 := aeval_sound he x
 rw [e] at h1
 have e1 := h1.string_inv
 exact .same r (.int _ _) (by simp [execOp,ho,e1,resolve,invoke,builtin,Builtin.len_,run_underlying ht,goInt])
theorem good_lenSlice (o : Oper) (x : Operand) (t el : TypeId) (ho : o.op = .call { callee := .builtin .len,args := #[x],argTypes := #[t] }) (ht : P.underlying t = some (.slice el)) (r : Rel ρ h w) (he : EnvRel ρ n s a.tmps) {v : Value} {h' : H} (e : evOp (.lenSlice x) s h = some (v,h')) :
  Good P o ρ h a w v h' := by
 have h1 := aeval_sound he x
 simp only [evOp] at e
 split at e
 ·rename_i hb
  rw [hb] at h1
  simp at e;obtain ⟨rfl,rfl⟩ := e
  obtain ⟨_,_,e1⟩ := h1.snil_inv
  exact .same r (.int _ _) (by simp [execOp,ho,e1,resolve,invoke,builtin,Builtin.len_,run_underlying ht,goInt])
 ·rename_i ad m c hb
  rw [hb] at h1
  simp at e;obtain ⟨rfl,rfl⟩ := e
  obtain ⟨v',hv'⟩ : ∃ v',v' = a.eval x := ⟨_,rfl⟩
  rw [← hv'] at h1
  cases h1 <;> exact .same r (.int _ _) (by simp [execOp,ho,← hv',resolve,invoke,builtin,Builtin.len_,run_underlying ht,goInt])
 ·cases e
theorem good_lenMap (o : Oper) (x : Operand) (t k q : TypeId) (ho : o.op = .call { callee := .builtin .len,args := #[x],argTypes := #[t] }) (ht : P.underlying t = some (.map k q)) (r : Rel ρ h w) (he : EnvRel ρ n s a.tmps) {m : List (Value × Value)} (e : entriesOf h (aeval s x) = some m) :
  Good P o ρ h a w (.int .i64 m.length) h := by
 have h1 := aeval_sound he x
 unfold entriesOf at e
 split at e
 ·rename_i hb
  rw [hb] at h1
  simp at e;subst e
  have e1 := h1.mnil_inv
  exact .same r (.int _ _) (by simp [execOp,ho,e1,resolve,invoke,builtin,Builtin.len_,run_underlying ht,goInt])
 ·rename_i b hb
  rw [hb] at h1
  obtain ⟨i,hi,e1⟩ := h1.map_inv
  split at e
  ·rename_i es lv hx
   simp at e;subst e
   obtain ⟨es',clock,g1,g2,_⟩ := r.blk b i _ hi hx
   have hl := g2.length
   simp at hl
   exact .same r (.int _ _) (by simp [execOp,ho,e1,resolve,invoke,builtin,Builtin.len_,run_underlying ht,goInt,getObj,Sem.run,g1,hl])
  ·cases e
 ·cases e
theorem good_minmax (o : Oper) (x y : Operand) (ts : Array TypeId) (isMax : Bool) (ho : o.op = .call { callee := .builtin (if isMax then .max else .min),args := #[x,y],argTypes := ts }) (r : Rel ρ h w) (he : EnvRel ρ n s a.tmps)
  {k : IntKind} {i j : Int} (ex : aeval s x = .int k i) (ey : aeval s y = .int k j) : Good P o ρ h a w (.int k (if isMax then (if j > i then j else i) else (if j < i then j else i))) h := by
 have h1 := aeval_sound he x
 rw [ex] at h1
 have h2 := aeval_sound he y
 rw [ey] at h2
 have e1 := h1.int_inv
 have e2 := h2.int_inv
 refine .same r (.int _ _) ?_
 cases isMax <;> simp [execOp,ho,e1,e2,resolve,invoke,builtin,Builtin.max_,Builtin.min_,Builtin.max2,Builtin.min2]
theorem good_nilCheck (o : Oper) (x : Operand) (ho : o.op = .nilCheck x) (r : Rel ρ h w) (he : EnvRel ρ n s a.tmps) {v : Value} {h' : H} (e : evOp (.nilCheck x) s h = some (v,h')) : Good P o ρ h a w v h' := by
 have h1 := aeval_sound he x
 simp only [evOp] at e
 split at e
 ·rename_i ad hb
  rw [hb] at h1
  simp at e;obtain ⟨rfl,rfl⟩ := e
  obtain ⟨v',hv'⟩ : ∃ v',v' = a.eval x := ⟨_,rfl⟩
  rw [← hv'] at h1
  have h1' := h1
  cases h1
  exact .same r h1' (by simp [execOp,ho,← hv'])
 ·rename_i f fs cs hb
  rw [hb] at h1
  simp at e;obtain ⟨rfl,rfl⟩ := e
  obtain ⟨v',hv'⟩ : ∃ v',v' = a.eval x := ⟨_,rfl⟩
  rw [← hv'] at h1
  have h1' := h1
  cases h1
  exact .same r h1' (by simp [execOp,ho,← hv'])
 ·cases e
theorem good_fieldAddr (o : Oper) (t : TypeId) (x : Operand) (i : Nat) (ho : o.op = .fieldAddr t x i) {fs : Array Field} (ht : P.underlying t = some (.struct fs)) {f : Field} (hf : fs[i]? = some f) {m : Nat} (hm : szOf P f.type = some (m + 1))
  (r : Rel ρ h w) (he : EnvRel ρ n s a.tmps) {b q : Nat} (e : aeval s x = .pointer (some ⟨b,q,none⟩)) : Good P o ρ h a w (.pointer (some ⟨b,q + f.offset,none⟩)) h := by
 have h1 := aeval_sound he x
 rw [e] at h1
 obtain ⟨i',hi,e1⟩ := h1.ptr_inv
 refine .same (v' := .pointer (some ⟨i'.blk,q + f.offset + i'.sh,none⟩)) r (.ptr hi) ?_
 simp only [execOp,ho,e1,Instr.fieldAt,Sem.run_bind,run_underlying ht,Result.andThen_ok,hf,Instr.sureAddr,Sem.run_pure,fieldPlace,run_sizeOf' (w := w) hm]
 simp [Addr.add_mid];omega
theorem good_indexAddr (o : Oper) (t : TypeId) (x i : Operand) (ho : o.op = .indexAddr t x i) {el : TypeId} (ht : P.underlying t = some (.slice el)) {sz : Nat} (hs : szOf P el = some sz) (r : Rel ρ h w) (he : EnvRel ρ n s a.tmps)
  {b q m c : Nat} (e : aeval s x = .slice (some ⟨b,q,none⟩) m c) {k : IntKind} {j : Int} (ei : aeval s i = .int k j) (h0 : 0 ≤ j) (hj : j < m) : Good P o ρ h a w (.pointer (some ⟨b,q + j.toNat * sz,none⟩)) h := by
 have h1 := aeval_sound he x
 rw [e] at h1
 have h2 := aeval_sound he i
 rw [ei] at h2
 obtain ⟨i',o',c',hi,e1,g1,g2,g3,g4⟩ := h1.slice_inv
 have e2 := h2.int_inv
 have ho' : o' = q + i'.sh := by rcases g4 with g4 | g4 <;> omega
 subst ho'
 refine .same (v' := .pointer (some ⟨i'.blk,q + j.toNat * sz + i'.sh,none⟩)) r (.ptr hi) ?_
 simp only [execOp,ho,e1,e2,Instr.indexAt,Sem.run_bind,asIntOf,Sem.run_pure,Result.andThen_ok,run_underlying ht]
 simp [h0,hj,Addr.add_mid,run_sizeOf' (w := w) hs];omega
theorem good_load1 (o : Oper) (t : TypeId) (x : Operand) (ho : o.op = .load t x) (hb : isRowB P t = some false) (r : Rel ρ h w) (he : EnvRel ρ n s a.tmps) {b q : Nat} (e : aeval s x = .pointer (some ⟨b,q,none⟩))
  {v : Value} (hr : (rd h b q 1).bind one? = some v) : Good P o ρ h a w v h := by
 have h1 := aeval_sound he x
 rw [e] at h1
 obtain ⟨i,hi,e1⟩ := h1.ptr_inv
 cases hl : rd h b q 1 with
 | none => rw [hl] at hr;cases hr
 | some l =>
  rw [hl] at hr
  obtain ⟨g1,l',g2,g3⟩ := rd_rel r hi hl
  obtain ⟨u,rfl⟩ := single g1
  simp [one?] at hr;subst hr
  cases g2 with
  | cons hv ht =>
   rename_i v' _
   have hc := g3 0 v' (by simp)
   refine .same r hv ?_
   simp only [execOp,ho,e1,Instr.loadAt,Instr.sureAddr,loadVar,Sem.run_bind,Sem.run_pure,Result.andThen_ok,run_isAgg (w := w) hb]
   simp only [Nat.add_zero] at hc
   simp [load,Sem.run,hc]
theorem good_loadN (o : Oper) (t : TypeId) (x : Operand) (ho : o.op = .load t x) (hb : isRowB P t = some true) {m : Nat} (hm : szOf P t = some m) (r : Rel ρ h w) (he : EnvRel ρ n s a.tmps) {b q : Nat} (e : aeval s x = .pointer (some ⟨b,q,none⟩))
  {l : List Value} (hl : rd h b q m = some l) : Good P o ρ h a w (.agg ⟨l⟩) h := by
 have h1 := aeval_sound he x
 rw [e] at h1
 obtain ⟨i,hi,e1⟩ := h1.ptr_inv
 obtain ⟨g1,l',g2,g3⟩ := rd_rel r hi hl
 have hlen : l'.length = m := by rw [← g2.length];exact g1
 refine .same r (.agg g2) ?_
 have hld : (loadCells ⟨i.blk,q + i.sh,none⟩ m).run P w = .ok l'.toArray w := by
  rw [← hlen];exact run_loadCells_list w _ l' (fun j v hv => by rw [Addr.add_mid];exact g3 j v hv)
 simp only [execOp,ho,e1,Instr.loadAt,Instr.sureAddr,loadVar,Sem.run_bind,Sem.run_pure,Result.andThen_ok,run_isAgg (w := w) hb,if_true,run_sizeOf' (w := w) hm,hld]
theorem run_sliceBound {x : Value} {k : IntKind} {j : Int} (e : x = .int k j) {y : Nat} (h0 : 0 ≤ j) (h1 : j ≤ y) (c : BoundsCode) : (Instr.sliceBound x y c).run P w = .ok j.toNat w := by
 subst e
 simp [Instr.sliceBound,asIntOf,h0,h1]
def BoundOf (x : Option Value) (d q : Nat) : Prop := (x = none ∧ q = d) ∨ ∃ k j,x = some (.int k j) ∧ 0 ≤ j ∧ j.toNat = q
theorem optInt_sound (he : EnvRel ρ n s a.tmps) {x : Option Operand} {d q : Nat} (e : optInt (x.map (aeval s)) d = some q) : BoundOf (x.map a.eval) d q := by
 cases x with
 | none => simp [optInt] at e;exact .inl ⟨rfl,e.symm⟩
 | some x =>
  simp only [Option.map_some] at e
  have h1 := aeval_sound he x
  cases hx : aeval s x <;> rw [hx] at e h1 <;> simp [optInt] at e
  rename_i k j
  exact .inr ⟨k,j,by simp [h1.int_inv],e.1,e.2⟩
theorem run_sliceBounds (isSlice : Bool) {len cap p q : Nat} {lo hi : Option Value} (hl : BoundOf lo 0 p) (hh : BoundOf hi len q) (h1 : p ≤ q) (h2 : q ≤ cap) :
  (Instr.sliceBounds isSlice len cap lo hi none).run P w = .ok (p,q,cap) w := by
 rcases hh with ⟨rfl,rfl⟩ | ⟨k,j,rfl,g1,g2⟩ <;> rcases hl with ⟨rfl,rfl⟩ | ⟨k2,j2,rfl,g3,g4⟩
 ·simp [Instr.sliceBounds]
 ·have hb := fun c => run_sliceBound (P := P) (w := w) (x := .int k2 j2) rfl g3 (y := q) (by omega) c
  simp [Instr.sliceBounds,hb,g4]
 ·have ha := fun c => run_sliceBound (P := P) (w := w) (x := .int k j) rfl g1 (y := cap) (by omega) c
  simp [Instr.sliceBounds,ha,g2]
 ·have ha := fun c => run_sliceBound (P := P) (w := w) (x := .int k j) rfl g1 (y := cap) (by omega) c
  have hb := fun c => run_sliceBound (P := P) (w := w) (x := .int k2 j2) rfl g3 (y := q) (by omega) c
  simp [Instr.sliceBounds,ha,hb,g2,g4]
theorem good_slice (o : Oper) (t : TypeId) (x : Operand) (lo hi : Option Operand) (ho : o.op = .slice t x lo hi none) {el : TypeId} (ht : P.underlying t = some (.slice el)) {sz : Nat} (hs : szOf P el = some sz) (r : Rel ρ h w) (he : EnvRel ρ n s a.tmps)
  {b q m c : Nat} (e : aeval s x = .slice (some ⟨b,q,none⟩) m c) {p z : Nat} (ez : optInt (hi.map (aeval s)) m = some z) (ep : optInt (lo.map (aeval s)) 0 = some p) (h1 : p ≤ z) (h2 : z ≤ c) :
  Good P o ρ h a w (.slice (some ⟨b,q + p * sz,none⟩) (z - p) (c - p)) h := by
 have hx := aeval_sound he x
 rw [e] at hx
 obtain ⟨i',o',c',hi',e1,g1,g2,g3,g4⟩ := hx.slice_inv
 have hb := run_sliceBounds (P := P) (w := w) true (optInt_sound he ep) (optInt_sound he ez) h1 (Nat.le_trans h2 g2)
 have hcc : (c' - p) - (c - p) = c' - c := by omega
 have hrun : ∀ ad,ad = (if c' = p then some (⟨i'.blk,o',none⟩ : Addr) else some (⟨i'.blk,o' + p * sz,none⟩ : Addr)) → (execOp a.eval o).run P w = .ok (.value (.slice ad (z - p) (c' - p))) w := by
  intro ad had
  simp only [execOp,ho,e1,Instr.sliceAt,Instr.slice,Sem.run_bind,run_underlying ht,Result.andThen_ok,Option.map_none,hb,run_sizeOf' (w := w) hs,Sem.run_pure]
  rw [had]
  by_cases hc : c' = p
  ·simp [hc]
  ·simp [hc,Addr.add_mid]
 refine .same r ?_ (hrun _ rfl)
 by_cases hc : c' = p
 ·rw [if_pos hc]
  exact .slice hi' (by omega) (by omega) (by rw [hcc];exact g3) (.inr (by omega))
 ·rw [if_neg hc]
  exact .slice hi' (by omega) (by omega) (by rw [hcc];exact g3) (by rcases g4 with g4 | g4 <;> omega)
theorem good_sliceNil (o : Oper) (t : TypeId) (x : Operand) (lo hi : Option Operand) (ho : o.op = .slice t x lo hi none) {el : TypeId} (ht : P.underlying t = some (.slice el)) {sz : Nat} (hs : szOf P el = some sz) (r : Rel ρ h w) (he : EnvRel ρ n s a.tmps)
  (e : aeval s x = .slice none 0 0) {p z : Nat} (ez : optInt (hi.map (aeval s)) 0 = some z) (ep : optInt (lo.map (aeval s)) 0 = some p) (h1 : p ≤ z) (h2 : z ≤ 0) :
  Good P o ρ h a w (.slice none 0 0) h := by
 have hx := aeval_sound he x
 rw [e] at hx
 obtain ⟨_,_,e1⟩ := hx.snil_inv
 obtain rfl : z = 0 := by omega
 obtain rfl : p = 0 := by omega
 have hb := run_sliceBounds (P := P) (w := w) true (cap := 0) (optInt_sound he ep) (optInt_sound he ez) (Nat.le_refl _) (Nat.le_refl _)
 refine .same r .snil ?_
 simp only [execOp,ho,e1,Instr.sliceAt,Instr.slice,Sem.run_bind,run_underlying ht,Result.andThen_ok,Option.map_none,hb,run_sizeOf' (w := w) hs,Sem.run_pure]
 simp
theorem good_sliceStr (o : Oper) (t : TypeId) (x : Operand) (lo hi : Option Operand) (ho : o.op = .slice t x lo hi none) (ht : P.underlying t = some .string) (r : Rel ρ h w) (he : EnvRel ρ n s a.tmps)
  {b : ByteArray} (e : aeval s x = .string b) {p z : Nat} (ez : optInt (hi.map (aeval s)) b.size = some z) (ep : optInt (lo.map (aeval s)) 0 = some p) (h1 : p ≤ z) (h2 : z ≤ b.size) :
  Good P o ρ h a w (.string (b.extract p z)) h := by
 have hx := aeval_sound he x
 rw [e] at hx
 have e1 := hx.string_inv
 have hb := run_sliceBounds (P := P) (w := w) false (optInt_sound he ep) (optInt_sound he ez) h1 h2
 refine .same r (.string _) ?_
 simp only [execOp,ho,e1,Instr.sliceAt,Instr.slice,Sem.run_bind,run_underlying ht,Result.andThen_ok,Option.map_none,Option.isSome_none,Sem.run_pure]
 simp [hb]
end Go.Ev
namespace Go.Ev
variable {P : Program} {ρ : Ren} {h : H} {a : Act} {w : World} {s : Env} {n : Nat}
def isKonst : Value → Bool
 | .bool _ | .int _ _ | .string _ | .pointer none | .slice none 0 0 | .map none | .nilFunc | .nilIface => true
 | _ => false
theorem VR.konst {v : Value} (h : isKonst v = true) : VR ρ v v := by
 unfold isKonst at h
 split at h <;> first | constructor | cases h
theorem VRs.konst : ∀ {l : List Value},l.all isKonst = true → VRs ρ l l
 | [],_ => .nil
 | v :: l,h => by
  rw [List.all_cons,Bool.and_eq_true] at h
  exact .cons (.konst h.1) (.konst h.2)
def zeroC (P : Program) (t : TypeId) : Option (List Value) :=
 match P.info? t with
 | some i => match i.zero with
  | some z => if z.cells.toList.all isKonst && (z.cells.size == i.size) then some z.cells.toList else none
  | none => none
 | none => none
theorem zeroC_run {t : TypeId} {l : List Value} (e : zeroC P t = some l) : ∃ z,(∀ w,(zeroValue t).run P w = .ok z w) ∧ z.cells.toList = l ∧ l.all isKonst = true ∧ szOf P t = some l.length := by
 unfold zeroC at e
 cases hi : P.info? t with
 | none => rw [hi] at e;cases e
 | some i =>
  rw [hi] at e
  cases hz : i.zero with
  | none => simp [hz] at e
  | some z =>
   simp only [hz] at e
   split at e
   ·rename_i hc
    cases e
    simp at hc
    refine ⟨z,fun w => by simp [zeroValue,typeInfo,hi,hz],rfl,by simpa using hc.1,by simp [szOf,hi,hc.2]⟩
   ·cases e
theorem toList_inj {α : Type} {x : Array α} {l : List α} (h : x.toList = l) : x = ⟨l⟩ := by cases x;simp at h;subst h;rfl
theorem good_alloc (o : Oper) (t : TypeId) (ho : o.op = .alloc t) {z : List Value} (hz : zeroC P t = some z) (r : Rel ρ h w) : Good P o ρ h a w (.pointer (some ⟨h.size,0,none⟩)) (newRow h z 0 []) := by
 obtain ⟨zv,g1,g2,g3,_⟩ := zeroC_run hz
 have e2 := toList_inj g2
 obtain ⟨r1,r2⟩ := row_rel r z zv.cells t 0 true [] (by simp) 0 (by rw [g2];simpa using VRs.konst g3) (by rw [e2];simp) _ rfl
 refine ⟨.pointer (some ⟨w.heap.size,0,none⟩),_,w.alloc (.cells zv.cells t),.inl ?_,?_,r1,r2⟩
 ·simp [execOp,ho,Instr.alloc,g1,newVar,Go.newRow,newObj,Sem.run]
 ·exact .ptr (i := ⟨w.heap.size,0,0,0⟩) (by simp [Ren.put])
theorem good_box (o : Oper) (t : TypeId) (x : Operand) (ho : o.op = .box t x) (r : Rel ρ h w) (he : EnvRel ρ n s a.tmps) {l : List Value} (hl : vcells (aeval s x) = some l) :
  Good P o ρ h a w (.pointer (some ⟨h.size,0,none⟩)) (newRow h l 0 []) := by
 have h1 := (aeval_sound he x).cells hl
 obtain ⟨r1,r2⟩ := row_rel r l (a.eval x).cells t 0 true [] (by simp) 0 (by rw [List.take_of_length_le (by rw [h1.length];exact Nat.le_refl _)];exact h1) (by rw [h1.length];simp) _ rfl
 refine ⟨.pointer (some ⟨w.heap.size,0,none⟩),_,w.alloc (.cells (a.eval x).cells t),.inl ?_,?_,r1,r2⟩
 ·simp [execOp,ho,Instr.box,newVar,Go.newRow,newObj,Sem.run]
 ·exact .ptr (i := ⟨w.heap.size,0,0,0⟩) (by simp [Ren.put])
theorem good_mkMap (o : Oper) (t : TypeId) (ho : o.op = .makeMap t none) (r : Rel ρ h w) : Good P o ρ h a w (.map (some h.size)) (h.push (.map [] true)) := by
 have hnew := heap_alloc_new w (.map #[] 0)
 obtain ⟨r1,r2⟩ := push_rel r (.map #[] 0) (.map [] true) ⟨w.heap.size,0,0,0⟩ rfl ⟨#[],0,hnew,.nil,.nil,by simp,by simp⟩ (by simp [Blk.ancs])
 refine ⟨.map (some w.heap.size),_,w.alloc (.map #[] 0),.inl ?_,?_,r1,r2⟩
 ·simp [execOp,ho,Instr.makeMap,newObj,Sem.run]
 ·exact .map (i := ⟨w.heap.size,0,0,0⟩) (by simp [Ren.put])
theorem good_store (o : Oper) (t : TypeId) (x y : Operand) (ho : o.op = .store t x y) {m : Nat} (hm : szOf P t = some m) (r : Rel ρ h w) (he : EnvRel ρ n s a.tmps) {b q : Nat} (e : aeval s x = .pointer (some ⟨b,q,none⟩))
  {l : List Value} (hl : vcells (aeval s y) = some l) (hlen : l.length = m) {h' : H} (hw : wr h b q l = some h') : Good P o ρ h a w junk h' := by
 have h1 := aeval_sound he x
 rw [e] at h1
 obtain ⟨i,hi,e1⟩ := h1.ptr_inv
 have h2 := (aeval_sound he y).cells hl
 obtain ⟨g1,g2,g3,g4,g5⟩ := wr_rel r hi hw h2
 have hst := run_storeCells_cells (P := P) i.blk (q + i.sh) (a.eval y).cells.toList 0 w (by simpa using g1) (by simpa using g2) g3
 simp only [Nat.add_zero] at hst
 have hsz : (a.eval y).cells.size = m := by rw [← hlen,h2.length];simp
 refine ⟨undef,ρ,_,.inr ⟨?_,rfl⟩,.junk _,g4,g5⟩
 simp only [execOp,ho,e1,Instr.storeAt,Instr.sureAddr,storeVar,Sem.run_bind,Sem.run_pure,Result.andThen_ok,run_sizeOf' (w := w) hm]
 simp [hsz,hst]
theorem foldl_splice (off : Nat) : ∀ (vs : List Value) (k : Nat) (cells : Array Value),off + k + vs.length ≤ cells.size →
  ((vs.zipIdx k).foldl (fun cs (c,j) => cs.setIfInBounds (off + j) c) cells).toList = cells.toList.take (off + k) ++ vs ++ cells.toList.drop (off + k + vs.length)
 | [],k,cells,_ => by simp
 | v :: vs,k,cells,hle => by
  simp only [List.length_cons] at hle
  rw [List.zipIdx_cons,List.foldl_cons,foldl_splice off vs (k + 1) _ (by simp;omega)]
  have hk : off + k < cells.toList.length := by simp;omega
  simp only [Array.toList_setIfInBounds]
  rw [show off + (k + 1) = (off + k) + 1 by omega,List.take_succ_eq_append_getElem (by simpa using hk)]
  have hd : List.drop (off + k + 1 + vs.length) (cells.toList.set (off + k) v) = List.drop (off + k + (v :: vs).length) cells.toList := by
   rw [List.drop_set,if_pos (by omega)]
   congr 1;simp;omega
  rw [hd]
  simp only [List.take_set]
  rw [List.set_eq_of_length_le (by simp;omega)]
  simp
theorem fill_sound {place : Nat → Option (Nat × Nat)} : ∀ {l : List (Nat × List Value)} {ps : List (Nat × Value)} {cs c : List Value} {cs' : Array Value},
  fillL cs l = some c → VRs ρ cs cs'.toList → l.length = ps.length →
  (∀ (k : Nat) (p : Nat × List Value) (q : Nat × Value),l[k]? = some p → ps[k]? = some q → place q.1 = some (p.1,p.2.length) ∧ VRs ρ p.2 q.2.cells.toList) →
  ∃ c' : Array Value,Instr.fill place cs' ps = some c' ∧ VRs ρ c c'.toList
 | [],[],cs,c,cs',e,hv,_,_ => by simp [fillL] at e;subst e;exact ⟨cs',rfl,hv⟩
 | [],_ :: _,_,_,_,_,_,hl,_ => by simp at hl
 | _ :: _,[],_,_,_,_,_,hl,_ => by simp at hl
 | (o,vs) :: l,(i,v) :: ps,cs,c,cs',e,hv,hl,hp => by
  unfold fillL at e
  split at e
  ·rename_i hle
   obtain ⟨g1,g2⟩ := hp 0 (o,vs) (i,v) rfl rfl
   have hvl := g2.length
   have hcl := hv.length
   simp only at g1 g2 hvl
   simp only [Array.length_toList] at hvl hcl
   unfold Instr.fill
   rw [g1]
   simp only
   have hcond : ¬ (v.cells.size ≠ vs.length || decide (o + v.cells.size > cs'.size)) = true := by simp;omega
   rw [if_neg (by simpa using hcond)]
   have hsp := foldl_splice o v.cells.toList 0 cs' (by simp;omega)
   have harr : (v.cells.zipIdx.foldl (fun cs (x : Value × Nat) => cs.setIfInBounds (o + x.2) x.1) cs').toList = cs'.toList.take o ++ v.cells.toList ++ cs'.toList.drop (o + v.cells.size) := by
    rw [← Array.foldl_toList,Array.toList_zipIdx]
    simpa using hsp
   refine fill_sound e ?_ (by simpa using hl) (fun k p q h1 h2 => hp (k + 1) p q (by simpa using h1) (by simpa using h2))
   rw [harr,← hvl]
   exact ((hv.take o).append g2).append (hv.drop _)
  ·cases e
theorem partsOf_sound (he : EnvRel ρ n s a.tmps) : ∀ {ps : List (Nat × Nat × Operand)} {l : List (Nat × List Value)},partsOf s ps = some l →
  l.length = ps.length ∧ ∀ (k : Nat) (p : Nat × List Value) (q : Nat × Nat × Operand),l[k]? = some p → ps[k]? = some q → p.1 = q.1 ∧ p.2.length = q.2.1 ∧ VRs ρ p.2 (a.eval q.2.2).cells.toList
 | [],l,e => by simp [partsOf] at e;subst e;exact ⟨rfl,fun k p q h1 _ => by simp at h1⟩
 | (o,m,x) :: ps,l,e => by
  unfold partsOf at e
  cases h1 : vcells (aeval s x) with
  | none => rw [h1] at e;simp at e
  | some vs =>
   cases h2 : partsOf s ps with
   | none => rw [h1,h2] at e;simp at e
   | some l2 =>
    rw [h1,h2] at e
    simp only at e
    split at e
    ·rename_i hm
     cases e
     obtain ⟨g1,g2⟩ := partsOf_sound he h2
     refine ⟨by simp [g1],fun k p q h3 h4 => ?_⟩
     cases k with
     | zero =>
      simp at h3 h4;subst h3;subst h4
      exact ⟨rfl,hm,(aeval_sound he x).cells h1⟩
     | succ k => exact g2 k p q (by simpa using h3) (by simpa using h4)
    ·cases e
end Go.Ev
