/- Texts of the proofs over heraldlaw18, put together by a program (merge18c.py): Rx1 Rm0. -/
import Derived.Test.YtnoghchcboiojaaGreatDoorD5
import Derived.Test.YtnoghchcboiojaaGreatDoorC16
import Derived.Test.YtnoghchcboiojaaGreatDoorC15
set_option linter.unusedVariables false
set_option linter.unusedSimpArgs false
section
set_option maxRecDepth 100000
namespace Go.Proofs
open Go.Shelf Go.Ev Go.RowKit
namespace YtnoghchcboiojaaGreatDoor
theorem x_of {f : FuncId} {x : List Value → H → Res} (hc : callable Tryz.prog f = true)
  (hx : ∀ args h r h',x args h = some (r,h') → isPan r = false ∧ ∀ ρ w args',Rel ρ h w → VRs ρ args args' → Calls Tryz.prog f ⟨args'⟩ w fun e w' => ∃ v' ρ',e = .returned v' ∧ VR ρ' r v' ∧ Rel ρ' h' w' ∧ Ext ρ h w ρ' h' w') :
  CallOk Tryz.prog (fun g args h => if g = f then x args h else none) := by
 intro g args h r h' e
 simp only at e
 split at e
 ·rename_i hg
  subst hg
  obtain ⟨h1,h2⟩ := hx args h r h' e
  refine ⟨hc,fun ρ w args' hr hv => (h2 ρ w args' hr hv).mono ?_⟩
  rintro e w' ⟨v',ρ',h3,h4,h5,h6⟩
  exact .inl ⟨h1,v',ρ',h3,h4,h5,h6⟩
 ·cases e
theorem grown_of {w w' : World} (h : Below w.heap.size w w') : w.grownBy w' none := ⟨h.os,h.tape,h.output,h.size,fun k hk _ => h.block k hk⟩
theorem string_inv {ρ : Go.Ev.Ren} {s : ByteArray} {v : Value} (h : VR ρ (.string s) v) : v = .string s := by cases h;rfl
theorem int_inv {ρ : Go.Ev.Ren} {k : IntKind} {n : Int} {v : Value} (h : VR ρ (.int k n) v) : v = .int k n := by cases h;rfl
theorem args1 {ρ : Go.Ev.Ren} {a : Value} {l : List Value} (h : VRs ρ [a] l) : ∃ a',l = [a'] ∧ VR ρ a a' := by
 cases h with
 | cons h1 h2 => cases h2;exact ⟨_,rfl,h1⟩
theorem args2 {ρ : Go.Ev.Ren} {a b : Value} {l : List Value} (h : VRs ρ [a,b] l) : ∃ a' b',l = [a',b'] ∧ VR ρ a a' ∧ VR ρ b b' := by
 cases h with
 | cons h1 h2 => obtain ⟨b',rfl,h3⟩ := args1 h2;exact ⟨_,_,rfl,h1,h3⟩
def xIdx (args : List Value) (h : H) : Res := match args with
 | [.string s,.int .u8 c] => some (.int .i64 (Lib.indexByte s.data.toList c.toNat.toUInt8),h)
 | _ => none
theorem idx_ok : CallOk Tryz.prog (fun g args h => if g = 105 then xIdx args h else none) := by
 refine x_of (by kernel_rfl) fun args h r h' e => ?_
 unfold xIdx at e
 split at e
 ·rename_i s c
  cases e
  refine ⟨rfl,fun ρ w args' hr hv => ?_⟩
  obtain ⟨a',b',rfl,h1,h2⟩ := args2 hv
  have h1 := string_inv h1
  have h2 := int_inv h2
  subst h1 h2
  refine (Any.strings_IndexByte idxL s c w).mono ?_
  rintro e w' ⟨rfl,rfl⟩
  exact ⟨_,ρ,rfl,.int _ _,hr,Ext.refl _ _ _⟩
 ·cases e
def xItoa (args : List Value) (h : H) : Res := match args with
 | [.int .i64 n] => if -9223372036854775808 ≤ n ∧ n ≤ 9223372036854775807 then some (.string ⟨(Lib.itoa n).toArray⟩,h) else none
 | _ => none
theorem tab_is {ρ : Go.Ev.Ren} {h : H} {w : World} (r : Rel ρ h w) : Lib.TabIs Tryz.prog w "internal/strconv.uint64pow10" .u64 Lib.pow10Tab := by
 obtain ⟨t,fr,ht⟩ := r.gt.tab
 have e : Tryz.prog.globalNamed "internal/strconv.uint64pow10" = some gTab := by kernel_rfl
 have e2 : Lib.pow10Tab = gTabL := by decide
 unfold Lib.TabIs World.var?
 rw [e,e2]
 simp only [Option.bind_some,ht]
theorem itoa_ok : CallOk Tryz.prog (fun g args h => if g = 55 then xItoa args h else none) := by
 refine x_of (by kernel_rfl) fun args h r h' e => ?_
 unfold xItoa at e
 split at e
 ·rename_i n
  split at e
  ·rename_i hn
   cases e
   refine ⟨rfl,fun ρ w args' hr hv => ?_⟩
   obtain ⟨a',rfl,h1⟩ := args1 hv
   have h1 := int_inv h1
   subst h1
   refine (Any.strconv_Itoa itoaL n hn.1 hn.2 w (tab_is hr)).mono ?_
   rintro e w' ⟨rfl,k,os,rfl⟩
   have g : w.grownBy (Go.Sort.grow (w.drewN k) os) none := ⟨rfl,rfl,rfl,by show _ ≤ (w.heap ++ os).size;simp,fun j hj _ => by show (w.heap ++ os)[j]? = _;exact Array.getElem?_append_left hj⟩
   exact ⟨_,ρ,rfl,.string _,(grown_rel hr g).1,(grown_rel hr g).2⟩
  ·cases e
 ·cases e
theorem freeze_io (w : World) (a : Addr) (n : Nat) : (w.freeze a n).os = w.os ∧ (w.freeze a n).tape = w.tape ∧ (w.freeze a n).output = w.output := by
 unfold World.freeze
 split <;> exact ⟨rfl,rfl,rfl⟩
theorem bytes_grown (w : World) (e : TypeId) (s : ByteArray) : w.grownBy (Lib.bytesWorld w e s) none :=
 ⟨(freeze_io _ _ _).1,(freeze_io _ _ _).2.1,(freeze_io _ _ _).2.2,by rw [Lib.bytesWorld_size];omega,fun k hk _ => Lib.bytesWorld_at_old w e s k hk⟩
def xAtoi (args : List Value) (h : H) : Res := match args with
 | [.string s] => if s.size ≤ 18 then match Lib.atoi s.data.toList with
  | some n => some (.tuple ⟨[.int .i64 n,.nilIface]⟩,h)
  | none => none
  else none
 | _ => none
theorem atoi_ok : CallOk Tryz.prog (fun g args h => if g = 104 then xAtoi args h else none) := by
 refine x_of (by kernel_rfl) fun args h r h' e => ?_
 unfold xAtoi at e
 split at e
 ·rename_i s
  split at e
  ·rename_i hs
   split at e
   ·rename_i n hn
    cases e
    refine ⟨isPan_t2 _ _,fun ρ w args' hr hv => ?_⟩
    obtain ⟨a',rfl,h1⟩ := args1 hv
    have h1 := string_inv h1
    subst h1
    refine (Any.strconv_Atoi atoiL s n hs hn w).mono ?_
    rintro e w' ⟨rfl,t,rfl⟩
    have g := bytes_grown w (libR.t 5) t
    exact ⟨_,ρ,rfl,.tuple (.cons (.int _ _) (.cons .inil .nil)),(grown_rel hr g).1,(grown_rel hr g).2⟩
   ·cases e
  ·cases e
 ·cases e
def splitL' (s sep : ByteArray) : List ByteArray := Lib.splitB sep 0 (Lib.countB s sep) s
def xSplit (args : List Value) (h : H) : Res := match args with
 | [.string s,.string sep] => match hget h 4 with
  | some (.cells (.int .i64 m :: _) _ _ _) => if s.size < 4294967281 ∧ 1 ≤ sep.size then
    some (.slice (some ⟨h.size,0,none⟩) (Lib.countB s sep + 1) (Lib.countB s sep + 1),Ev.newRow h ((splitL' s sep).map Value.string) 1 [])
   else none
  | _ => none
 | _ => none
theorem strings_rel (ρ : Go.Ev.Ren) : ∀ l : List ByteArray,VRs ρ (l.map Value.string) (l.map Value.string)
 | [] => .nil
 | s :: l => .cons (.string s) (strings_rel ρ l)
theorem split_ok : CallOk Tryz.prog (fun g args h => if g = 18 then xSplit args h else none) := by
 refine x_of (by kernel_rfl) fun args h r h' e => ?_
 unfold xSplit at e
 split at e
 ·rename_i s sep
  split at e
  ·rename_i m cs es lv an hg
   split at e
   ·rename_i hs
    cases e
    refine ⟨rfl,fun ρ w args' hr hv => ?_⟩
    obtain ⟨a',b',rfl,h1,h2⟩ := args2 hv
    have h1 := string_inv h1
    have h2 := string_inv h2
    subst h1 h2
    have hb := hr.blk 4 _ _ (hr.glb 4 (by decide)) hg
    obtain ⟨_,_,hcell⟩ := hb
    obtain ⟨v',hv',hvr⟩ := hcell 0 _ rfl
    have := int_inv hvr
    subst this
    refine (Any.strings_Split splitL (by kernel_rfl) s sep m w hs.1 hv' hs.2).mono ?_
    rintro e w' ⟨rfl,rfl⟩
    have hlen : (splitL' s sep).length = Lib.countB s sep + 1 := Lib.splitB_all sep hs.2 0 _ s rfl
    have hrow := row_rel hr ((splitL' s sep).map Value.string) ((splitL' s sep).map Value.string).toArray (libR.t 9) 1 true [] (by simp) 0
     (by rw [show (((splitL' s sep).map Value.string).toArray).toList = (splitL' s sep).map Value.string from rfl,List.take_length];exact strings_rel ρ (splitL' s sep)) (by simp) ⟨w.heap.size,0,1,0⟩ rfl
    refine ⟨_,_,rfl,?_,hrow.1,hrow.2⟩
    exact VR.slice (i := ⟨w.heap.size,0,1,0⟩) (by simp [Ren.put]) (Nat.le_refl _) (Nat.le_refl _) (by simp) (.inl rfl)
   ·cases e
  ·cases e
 ·cases e
def textsOf : List Value → Option (List ByteArray)
 | [] => some []
 | .string s :: r => (textsOf r).map fun l => s :: l
 | _ => none
def joinT (l : List ByteArray) (sep : ByteArray) : List UInt8 := Lib.join (l.map (·.data.toList)) sep.data.toList
def xJoin (args : List Value) (h : H) : Res := match args with
 | [.slice none 0 0,.string _] => some (.string ⟨#[]⟩,h)
 | [.slice (some ⟨b,o,none⟩) n c,.string sep] => if n ≤ 140737488355328 ∧ n ≤ c then match rd h b o n with
  | some l => match textsOf l with
   | some xs => if (joinT xs sep).length ≤ 140737488355328 ∧ 0 < n then some (.string ⟨(joinT xs sep).toArray⟩,h) else none
   | none => none
  | none => none
  else none
 | _ => none
theorem texts_inv {ρ : Go.Ev.Ren} : ∀ {l l' : List Value} {xs : List ByteArray},textsOf l = some xs → VRs ρ l l' → l' = xs.map Value.string
 | [],_,_,h,v => by
  simp [textsOf] at h;subst h
  cases v;rfl
 | a :: r,_,xs,h,v => by
  cases v with
  | cons h1 h2 =>
   cases a with
   | string s =>
    simp only [textsOf] at h
    obtain ⟨l,hl,rfl⟩ := Option.map_eq_some_iff.1 h
    have := string_inv h1
    subst this
    rw [texts_inv hl h2];rfl
   | _ => simp [textsOf] at h
theorem textsOf_len : ∀ {l : List Value} {xs : List ByteArray},textsOf l = some xs → l.length = xs.length
 | [],_,h => by simp [textsOf] at h;subst h;rfl
 | a :: r,xs,h => by
  cases a with
  | string s =>
   simp only [textsOf] at h
   obtain ⟨l,hl,rfl⟩ := Option.map_eq_some_iff.1 h
   simp [textsOf_len hl]
  | _ => simp [textsOf] at h
theorem join_ok : CallOk Tryz.prog (fun g args h => if g = 65 then xJoin args h else none) := by
 refine x_of (by kernel_rfl) fun args h r h' e => ?_
 unfold xJoin at e
 split at e
 ·rename_i sep
  cases e
  refine ⟨rfl,fun ρ w args' hr hv => ?_⟩
  obtain ⟨a',b',rfl,h1,h2⟩ := args2 hv
  have h2 := string_inv h2
  subst h2
  cases h1
  refine (Any.strings_Join_none joinL bldX none 0 sep w).mono ?_
  rintro e w' ⟨rfl,rfl⟩
  exact ⟨_,ρ,rfl,.string _,hr,Ext.refl _ _ _⟩
 ·rename_i b o n c sep
  split at e
  ·rename_i hn
   split at e
   ·rename_i l hl
    split at e
    ·rename_i xs hxs
     split at e
     ·rename_i hj
      cases e
      refine ⟨rfl,fun ρ w args' hr hv => ?_⟩
      obtain ⟨a',b',rfl,h1,h2⟩ := args2 hv
      have h2 := string_inv h2
      subst h2
      cases h1 with
      | slice hb hnc hcc hroom ho =>
       rename_i o' c' i
       obtain ⟨g1,l',g2,g3⟩ := rd_rel hr hb hl
       have g4 := texts_inv hxs g2
       have g5 := textsOf_len hxs
       have ho' : o' = o + i.sh := by
        rcases ho with ho | ho
        ·exact ho
        ·omega
       subst ho'
       subst g4
       have e5 : n = xs.length := by omega
       rw [e5]
       refine (Any.strings_Join joinL bldX i.blk (o + i.sh) c' xs sep w ?_ (hr.bnd _ _ hb) (by omega) (by omega) hj.1).mono ?_
       ·intro j x hx
        exact g3 j _ (by simp [hx])
       ·rintro e w' ⟨rfl,hw⟩
        have g := grown_of hw
        exact ⟨_,ρ,rfl,.string _,(grown_rel hr g).1,(grown_rel hr g).2⟩
     ·cases e
    ·cases e
   ·cases e
  ·cases e
 ·cases e
end YtnoghchcboiojaaGreatDoor
end Go.Proofs
end
namespace Go.Ev
open Go.Rn
def ofB (l : Bs) : ByteArray := ⟨⟨l⟩⟩
@[simp] theorem bs_ofB (l : Bs) : bs (ofB l) = l := rfl
theorem ofB_bs (t : ByteArray) : ofB (bs t) = t := rfl
@[simp] theorem slen_ofB (l : Bs) : slen (ofB l) = l.length := by rw [← bs_len,bs_ofB]
theorem ofB_of {t : ByteArray} {l : Bs} (h : bs t = l) : t = ofB l := by rw [← h,ofB_bs]
theorem ofB_inj {a b : Bs} (h : ofB a = ofB b) : a = b := by have := congrArg bs h;simpa using this
theorem ofB_beq (a b : Bs) : (ofB a == ofB b) = decide (a = b) := by rw [ba_beq];rfl
theorem ofB_bne (a b : Bs) : (ofB a != ofB b) = !decide (a = b) := by rw [ba_bne];rfl
theorem ofB_app (a b : Bs) : ofB a ++ ofB b = ofB (a ++ b) := bs_inj (by rw [bs_app];rfl)
theorem ofB_ext (l : Bs) (p q : Nat) : (ofB l).extract p q = ofB ((l.drop p).take (q - p)) := bs_inj (by rw [bs_ext];rfl)
theorem atS_ofB {l : Bs} {i : Nat} {h : H} {c : UInt8} (hc : l[i]? = some c) : atS (ofB l) (i : Int) h = some (.int .u8 c.toNat,h) := atS_nat (by simpa using hc)
theorem cutS_ofB {l : Bs} {p q : Nat} {h : H} (h1 : p ≤ q) (h2 : q ≤ l.length) : cutS (ofB l) p q h = some (.string (ofB ((l.drop p).take (q - p))),h) := by
 rw [cutS_ok h1 (by simpa using h2),ofB_ext]
abbrev vi (n : Int) : Value := .int .i64 n
abbrev vs (l : Bs) : Value := .string (ofB l)
def kindOf : Rn.Tok → Int
 | .name _ => 1
 | .num _ => 2
 | .place _ => 3
 | .quoted _ => 4
 | .semi => 5
def textOf : Rn.Tok → Bs
 | .name s => s
 | .place s => s
 | .quoted s => s
 | _ => []
def numOf : Rn.Tok → Int
 | .num n => n
 | _ => 0
def tokC (t : Rn.Tok) : List Value := [vi (kindOf t),vs (textOf t),vi (numOf t)]
def TokR (_ : H) (cs : List Value) (t : Rn.Tok) : Prop := cs = tokC t
def opC (o : Rn.Op) : List Value := [vi o.kind,vs o.place,vs o.data,vi o.version,vi o.flags]
def OpR (_ : H) (cs : List Value) (o : Rn.Op) : Prop := cs = opC o
def StR (ok : Nat → Prop) (h : H) (cs : List Value) (s : Rn.St) : Prop := ∃ ov,cs = [vi s.kind,vi s.a,vi s.b,vi s.c,vs s.place,ov] ∧ SlR ok 5 OpR h ov s.ops
def ruC (r : Ru) : List Value := [vi r.nodes,vi r.clients,vi r.queue,vi r.ring,vi r.window,vi r.lease]
def decOp : List Value → Option Rn.Op
 | [.int .i64 k,.string p,.string d,.int .i64 v,.int .i64 f] => some ⟨k,bs p,bs d,v,f⟩
 | _ => none
def decL {α : Type} (w : Nat) (dec : List Value → Option α) (cs : List Value) (o : Nat) : Nat → Nat → Option (List α)
 | _,0 => some []
 | i,n + 1 => if o + i * w + w ≤ cs.length then match dec ((cs.drop (o + i * w)).take w),decL w dec cs o (i + 1) n with
  | some x,some l => some (x :: l)
  | _,_ => none
  else none
def decS {α : Type} (w : Nat) (dec : List Value → Option α) (h : H) : Value → Option (List α)
 | .slice none 0 0 => some []
 | .slice (some ⟨_,_,some _⟩) 0 0 => some []
 | .slice (some ⟨b,o,none⟩) n c => if n ≤ c then match cel h b with
  | some cs => decL w dec cs o 0 n
  | none => none
  else none
 | _ => none
def decSt (h : H) : List Value → Option Rn.St
 | [.int .i64 k,.int .i64 a,.int .i64 b,.int .i64 c,.string p,ov] => (decS 5 decOp h ov).map fun ops => ⟨k,a,b,c,bs p,ops⟩
 | _ => none
def decRu : List Value → Option Ru
 | [.int .i64 a,.int .i64 b,.int .i64 c,.int .i64 d,.int .i64 e,.int .i64 f] => some ⟨a,b,c,d,e,f⟩
 | _ => none
theorem decL_of {α : Type} {w : Nat} {dec : List Value → Option α} {cs : List Value} {o : Nat} : ∀ {n i : Nat} {xs : List α},xs.length = n →
  (∀ (j : Nat) (x : α),xs[j]? = some x → o + (i + j) * w + w ≤ cs.length ∧ dec ((cs.drop (o + (i + j) * w)).take w) = some x) → decL w dec cs o i n = some xs
 | 0,i,[],_,_ => rfl
 | n + 1,i,x :: xs,hl,hx => by
  have h0 := hx 0 x rfl
  simp only [Nat.add_zero] at h0
  have ih := decL_of (w := w) (dec := dec) (cs := cs) (o := o) (n := n) (i := i + 1) (xs := xs) (by simpa using hl) fun j y hy => by
   have := hx (j + 1) y (by simpa using hy)
   rw [show i + (j + 1) = i + 1 + j by omega] at this
   exact this
  simp only [decL,h0.1,if_true,h0.2,ih]
 | 0,i,_ :: _,hl,_ => by simp at hl
 | n + 1,i,[],hl,_ => by simp at hl
theorem decS_of {α : Type} {w : Nat} {dec : List Value → Option α} {R : H → List Value → α → Prop} {ok : Nat → Prop} {h : H} {v : Value} {xs : List α} (s : SlR ok w R h v xs) (hR : ∀ cs,∀ x ∈ xs,R h cs x → dec cs = some x) : decS w dec h v = some xs := by
 rcases s with ⟨rfl | rfl,rfl⟩ | ⟨b,o,c,cs,rfl,hc,_,hb,hi⟩
 ·rfl
 ·rfl
 ·have := decL_of (w := w) (dec := dec) (cs := cs) (o := o) (n := xs.length) (i := 0) (xs := xs) rfl fun j x hx => by
   have := hi j x hx
   rw [Nat.zero_add]
   exact ⟨this.1,hR _ x (List.mem_of_getElem? hx) this.2⟩
  simp only [decS,hc,if_true,hb,this]
theorem decOp_of {h : H} {cs : List Value} {o : Rn.Op} (e : OpR h cs o) : decOp cs = some o := by
 rw [show cs = opC o from e];rfl
theorem decSt_of {ok : Nat → Prop} {h : H} {cs : List Value} {s : Rn.St} (e : StR ok h cs s) : decSt h cs = some s := by
 obtain ⟨ov,rfl,hs⟩ := e
 simp only [decSt,decS_of hs fun cs x _ e => decOp_of e]
 rfl
theorem decRu_of (r : Ru) : decRu (ruC r) = some r := rfl
end Go.Ev
