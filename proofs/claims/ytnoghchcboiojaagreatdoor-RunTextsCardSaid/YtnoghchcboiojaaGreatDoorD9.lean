/- Texts of the proofs over heraldlaw18, put together by a program (merge18c.py): Rb0 Rf0 Rf1 Rf2 Rf3 Rf4 Rf5 Rg0 Rg1 Rg2 Rg3. -/
import Derived.Test.YtnoghchcboiojaaGreatDoorD6
import Derived.Test.YtnoghchcboiojaaGreatDoorD7
import Derived.Test.YtnoghchcboiojaaGreatDoorD8
import Derived.Test.YtnoghchcboiojaaGreatDoorD0
import Derived.Test.YtnoghchcboiojaaGreatDoorD1
import Derived.Test.YtnoghchcboiojaaGreatDoorC1
set_option linter.unusedVariables false
set_option linter.unusedSimpArgs false
section
set_option maxRecDepth 100000
namespace Go.Proofs
open Go.Ev Go.RowKit
namespace YtnoghchcboiojaaGreatDoor
def xQuote (args : List Value) (h : H) : Res := match args with
 | [.string s] => if s.size ≤ 35184372000000 then some (.string (ofB (Go.Rn.quote (bs s))),h) else none
 | _ => none
theorem quote_ok : CallOk Tryz.prog (fun g args h => if g = 95 then xQuote args h else none) := by
 refine x_of (by kernel_rfl) fun args h r h' e => ?_
 unfold xQuote at e
 split at e
 ·rename_i s
  split at e
  ·rename_i hs
   cases e
   refine ⟨rfl,fun ρ w args' hr hv => ?_⟩
   obtain ⟨a',rfl,h1⟩ := args1 hv
   have h1 := string_inv h1
   subst h1
   refine (quote_walk s w hs).mono ?_
   rintro e w' ⟨rfl,hb⟩
   have g := grown_rel hr (grown_of hb)
   exact ⟨_,ρ,rfl,.string _,g.1,g.2⟩
  ·cases e
 ·cases e
def printV : Go.Rn.WRes → Value
 | .ok t => .tuple ⟨[.string (ofB t),.int .i64 0]⟩
 | .long => .tuple ⟨[.string .empty,.int .i64 2]⟩
 | .bad => .tuple ⟨[.string .empty,.int .i64 180]⟩
def watB (h : H) : Bool := match hget h 1 with
 | some (.cells (.string a :: .string b :: .string c :: .string d :: _) _ _ _) => bs a == [] && bs b == Go.Rn.w_node && bs c == Go.Rn.w_kids && bs d == Go.Rn.w_subtree
 | _ => false
def xPrint (args : List Value) (h : H) : Res := match args with
 | [.agg ⟨r⟩,v] => if watB h = true then match decRu r,decS 6 (decSt h) h v with
  | some r,some l => some (printV (Go.Rn.print r l),h)
  | _,_ => none
  else none
 | _ => none
def X (p : Bool) : FuncId → Option (List Value → H → Res)
 | 14 => if p then some xPrint else none
 | 18 => some xSplit
 | 55 => some xItoa
 | 65 => some xJoin
 | 95 => some xQuote
 | 104 => some xAtoi
 | 105 => some xIdx
 | _ => none
def XD : FuncId → Option (List Value → H → Option Value → Option (Option Value × H))
 | 17 => some fun args h m => if args.length = 5 then xCatch args h m else none
 | _ => none
def tbl : FuncId → Option AFn
 | 3 => some a3
 | 4 => some a4
 | 5 => some a5
 | 6 => some a6
 | 7 => some a7
 | 8 => some a8
 | 9 => some a9
 | 11 => some a11
 | 12 => some a12
 | 13 => some a13
 | 15 => some a15
 | 16 => some a16
 | 19 => some a19
 | 20 => some a20
 | 21 => some a21
 | 22 => some a22
 | 26 => some a26
 | 27 => some a27
 | 30 => some a30
 | 31 => some a31
 | 32 => some a32
 | 35 => some a35
 | 36 => some a36
 | 38 => some a38
 | 39 => some a39
 | 40 => some a40
 | 41 => some a41
 | 42 => some a42
 | 43 => some a43
 | 44 => some a44
 | 45 => some a45
 | 46 => some a46
 | 47 => some a47
 | 48 => some a48
 | 51 => some a51
 | 52 => some a52
 | 53 => some a53
 | 61 => some a61
 | 62 => some a62
 | 63 => some a63
 | 64 => some a64
 | 66 => some a66
 | 67 => some a67
 | 71 => some a71
 | 72 => some a72
 | 73 => some a73
 | 74 => some a74
 | 75 => some a75
 | 76 => some a76
 | 77 => some a77
 | 78 => some a78
 | 79 => some a79
 | 96 => some a96
 | 98 => some a98
 | 99 => some a99
 | 106 => some a106
 | 107 => some a107
 | 150 => some a150
 | _ => none
theorem tbl_ok : TblOk Tryz.prog tbl := by
 intro f af h
 unfold tbl at h
 split at h <;> cases h
 ·exact ⟨_,_,Tryz.func3,a3_ok⟩
 ·exact ⟨_,_,Tryz.func4,a4_ok⟩
 ·exact ⟨_,_,Tryz.func5,a5_ok⟩
 ·exact ⟨_,_,Tryz.func6,a6_ok⟩
 ·exact ⟨_,_,Tryz.func7,a7_ok⟩
 ·exact ⟨_,_,Tryz.func8,a8_ok⟩
 ·exact ⟨_,_,Tryz.func9,a9_ok⟩
 ·exact ⟨_,_,Tryz.func11,a11_ok⟩
 ·exact ⟨_,_,Tryz.func12,a12_ok⟩
 ·exact ⟨_,_,Tryz.func13,a13_ok⟩
 ·exact ⟨_,_,Tryz.func15,a15_ok⟩
 ·exact ⟨_,_,Tryz.func16,a16_ok⟩
 ·exact ⟨_,_,Tryz.func19,a19_ok⟩
 ·exact ⟨_,_,Tryz.func20,a20_ok⟩
 ·exact ⟨_,_,Tryz.func21,a21_ok⟩
 ·exact ⟨_,_,Tryz.func22,a22_ok⟩
 ·exact ⟨_,_,Tryz.func26,a26_ok⟩
 ·exact ⟨_,_,Tryz.func27,a27_ok⟩
 ·exact ⟨_,_,Tryz.func30,a30_ok⟩
 ·exact ⟨_,_,Tryz.func31,a31_ok⟩
 ·exact ⟨_,_,Tryz.func32,a32_ok⟩
 ·exact ⟨_,_,Tryz.func35,a35_ok⟩
 ·exact ⟨_,_,Tryz.func36,a36_ok⟩
 ·exact ⟨_,_,Tryz.func38,a38_ok⟩
 ·exact ⟨_,_,Tryz.func39,a39_ok⟩
 ·exact ⟨_,_,Tryz.func40,a40_ok⟩
 ·exact ⟨_,_,Tryz.func41,a41_ok⟩
 ·exact ⟨_,_,Tryz.func42,a42_ok⟩
 ·exact ⟨_,_,Tryz.func43,a43_ok⟩
 ·exact ⟨_,_,Tryz.func44,a44_ok⟩
 ·exact ⟨_,_,Tryz.func45,a45_ok⟩
 ·exact ⟨_,_,Tryz.func46,a46_ok⟩
 ·exact ⟨_,_,Tryz.func47,a47_ok⟩
 ·exact ⟨_,_,Tryz.func48,a48_ok⟩
 ·exact ⟨_,_,Tryz.func51,a51_ok⟩
 ·exact ⟨_,_,Tryz.func52,a52_ok⟩
 ·exact ⟨_,_,Tryz.func53,a53_ok⟩
 ·exact ⟨_,_,Tryz.func61,a61_ok⟩
 ·exact ⟨_,_,Tryz.func62,a62_ok⟩
 ·exact ⟨_,_,Tryz.func63,a63_ok⟩
 ·exact ⟨_,_,Tryz.func64,a64_ok⟩
 ·exact ⟨_,_,Tryz.func66,a66_ok⟩
 ·exact ⟨_,_,Tryz.func67,a67_ok⟩
 ·exact ⟨_,_,Tryz.func71,a71_ok⟩
 ·exact ⟨_,_,Tryz.func72,a72_ok⟩
 ·exact ⟨_,_,Tryz.func73,a73_ok⟩
 ·exact ⟨_,_,Tryz.func74,a74_ok⟩
 ·exact ⟨_,_,Tryz.func75,a75_ok⟩
 ·exact ⟨_,_,Tryz.func76,a76_ok⟩
 ·exact ⟨_,_,Tryz.func77,a77_ok⟩
 ·exact ⟨_,_,Tryz.func78,a78_ok⟩
 ·exact ⟨_,_,Tryz.func79,a79_ok⟩
 ·exact ⟨_,_,Tryz.func96,a96_ok⟩
 ·exact ⟨_,_,Tryz.func98,a98_ok⟩
 ·exact ⟨_,_,Tryz.func99,a99_ok⟩
 ·exact ⟨_,_,Tryz.func106,a106_ok⟩
 ·exact ⟨_,_,Tryz.func107,a107_ok⟩
 ·exact ⟨_,_,Tryz.func150,a150_ok⟩
theorem XD_ok : CallDOk Tryz.prog (cfX XD) := by
 intro f args h m m' h' e
 unfold cfX XD at e
 split at e
 ·rename_i x hx
  split at hx
  ·cases hx
   refine catch_dok 17 args h m m' h' ?_
   simp only at e ⊢
   split at e
   ·rename_i hl
    rw [if_pos ⟨trivial,hl⟩];exact e
   ·cases e
  ·cases hx
 ·cases e
theorem X_ok0 : XOk Tryz.prog (X false) := by
 intro f x hx
 unfold X at hx
 split at hx <;> first
  | (cases hx;exact split_ok)
  | (cases hx;exact itoa_ok)
  | (cases hx;exact join_ok)
  | (cases hx;exact quote_ok)
  | (cases hx;exact atoi_ok)
  | (cases hx;exact idx_ok)
  | (simp at hx)
abbrev cf (p : Bool) (F : Nat) : CF := evFn (X p) (cfX XD) tbl F
theorem cf_ok0 (F : Nat) : CallOk Tryz.prog (cf false F) := evFn_sound splitL.mixed tbl_ok X_ok0 XD_ok F
theorem cf_step {p : Bool} {F : Nat} {f : FuncId} {args : List Value} {h : H} {a : AFn} (hX : X p f = none) (ht : tbl f = some a) (hl : args.length ≤ a.ntmps) :
  cf p (F + 1) f args h = evC F (cxOf (cf p F) (cfX XD) a.results) a.body (endK (cfX XD) a.results) noK (endK (cfX XD) a.results) (envOf 0 args) h [] := by
 simp only [cf,evFn,hX,ht,if_pos hl]
 rfl
theorem cf_X {p : Bool} {F : Nat} {f : FuncId} {args : List Value} {h : H} {x : List Value → H → Res} (hX : X p f = some x) : cf p (F + 1) f args h = x args h := by
 simp only [cf,evFn,hX]
end YtnoghchcboiojaaGreatDoor
end Go.Proofs
end
section
set_option maxRecDepth 100000
namespace Go.Proofs.YtnoghchcboiojaaGreatDoor
open Go.Ev
open Go.Rn (Bs small digit bare blank hex)
def off : Value := pv (.iface 48 (.agg ⟨[]⟩))
@[simp] theorem isPan_off : isPan off = true := nr rfl
section
variable {cx : Cx} {d : Option Nat} {os : List AOper} {s s0 e : Env} {h h' : H} {kn : K} {keep : List Nat} {ds : Ds} {l ops : List DOp} {ts : List TR} {q : DK}
@[simp high] theorem nextC_off : nextC (some (off,h')) cx d os s kn keep ds = cx.p off s h' ds := nextC_pan isPan_off
@[simp high] theorem nextCE_off : nextCE (some (off,h')) true cx d l s kn keep ds ops s0 = cx.p off (rest s0 ops) h' ds := nextCE_pan isPan_off
@[simp high] theorem nextCD_off : nextCD (some (off,h')) true cx d l ts e s h q s0 = q.pan cx (ts ++ ⟨e,h,true,off⟩ :: blanks h' l) s0 h' off := nextCD_pan isPan_off
end
@[simp] theorem unpan_off : pv (unpan off) = off := nr rfl
@[simp] theorem unpan_off' : unpan off = .iface 48 (.agg ⟨[]⟩) := nr rfl
@[simp] theorem off_eq : pv (.iface 48 (.agg ⟨[]⟩)) = off := nr rfl
@[simp] theorem be9 (c : UInt8) : ((c.toNat : Int) == 9) = decide (c = 9) := byte_beq c 9 (by decide)
@[simp] theorem be10 (c : UInt8) : ((c.toNat : Int) == 10) = decide (c = 10) := byte_beq c 10 (by decide)
@[simp] theorem be13 (c : UInt8) : ((c.toNat : Int) == 13) = decide (c = 13) := byte_beq c 13 (by decide)
@[simp] theorem be32 (c : UInt8) : ((c.toNat : Int) == 32) = decide (c = 32) := byte_beq c 32 (by decide)
@[simp] theorem be34 (c : UInt8) : ((c.toNat : Int) == 34) = decide (c = 34) := byte_beq c 34 (by decide)
@[simp] theorem be35 (c : UInt8) : ((c.toNat : Int) == 35) = decide (c = 35) := byte_beq c 35 (by decide)
@[simp] theorem be45 (c : UInt8) : ((c.toNat : Int) == 45) = decide (c = 45) := byte_beq c 45 (by decide)
@[simp] theorem be47 (c : UInt8) : ((c.toNat : Int) == 47) = decide (c = 47) := byte_beq c 47 (by decide)
@[simp] theorem be48 (c : UInt8) : ((c.toNat : Int) == 48) = decide (c = 48) := byte_beq c 48 (by decide)
@[simp] theorem be59 (c : UInt8) : ((c.toNat : Int) == 59) = decide (c = 59) := byte_beq c 59 (by decide)
@[simp] theorem be65 (c : UInt8) : ((c.toNat : Int) == 65) = decide (c = 65) := byte_beq c 65 (by decide)
@[simp] theorem be66 (c : UInt8) : ((c.toNat : Int) == 66) = decide (c = 66) := byte_beq c 66 (by decide)
@[simp] theorem be67 (c : UInt8) : ((c.toNat : Int) == 67) = decide (c = 67) := byte_beq c 67 (by decide)
@[simp] theorem be68 (c : UInt8) : ((c.toNat : Int) == 68) = decide (c = 68) := byte_beq c 68 (by decide)
@[simp] theorem be70 (c : UInt8) : ((c.toNat : Int) == 70) = decide (c = 70) := byte_beq c 70 (by decide)
@[simp] theorem be75 (c : UInt8) : ((c.toNat : Int) == 75) = decide (c = 75) := byte_beq c 75 (by decide)
@[simp] theorem be78 (c : UInt8) : ((c.toNat : Int) == 78) = decide (c = 78) := byte_beq c 78 (by decide)
@[simp] theorem be79 (c : UInt8) : ((c.toNat : Int) == 79) = decide (c = 79) := byte_beq c 79 (by decide)
@[simp] theorem be80 (c : UInt8) : ((c.toNat : Int) == 80) = decide (c = 80) := byte_beq c 80 (by decide)
@[simp] theorem be86 (c : UInt8) : ((c.toNat : Int) == 86) = decide (c = 86) := byte_beq c 86 (by decide)
@[simp] theorem be92 (c : UInt8) : ((c.toNat : Int) == 92) = decide (c = 92) := byte_beq c 92 (by decide)
@[simp] theorem be100 (c : UInt8) : ((c.toNat : Int) == 100) = decide (c = 100) := byte_beq c 100 (by decide)
@[simp] theorem be102 (c : UInt8) : ((c.toNat : Int) == 102) = decide (c = 102) := byte_beq c 102 (by decide)
@[simp] theorem be107 (c : UInt8) : ((c.toNat : Int) == 107) = decide (c = 107) := byte_beq c 107 (by decide)
@[simp] theorem be110 (c : UInt8) : ((c.toNat : Int) == 110) = decide (c = 110) := byte_beq c 110 (by decide)
@[simp] theorem be111 (c : UInt8) : ((c.toNat : Int) == 111) = decide (c = 111) := byte_beq c 111 (by decide)
@[simp] theorem be112 (c : UInt8) : ((c.toNat : Int) == 112) = decide (c = 112) := byte_beq c 112 (by decide)
@[simp] theorem be118 (c : UInt8) : ((c.toNat : Int) == 118) = decide (c = 118) := byte_beq c 118 (by decide)
@[simp] theorem be120 (c : UInt8) : ((c.toNat : Int) == 120) = decide (c = 120) := byte_beq c 120 (by decide)
@[simp] theorem be127 (c : UInt8) : ((c.toNat : Int) == 127) = decide (c = 127) := byte_beq c 127 (by decide)
@[simp] theorem bn92 (c : UInt8) : ((c.toNat : Int) != 92) = !decide (c = 92) := by simp only [bne,be92]
@[simp] theorem bn10 (c : UInt8) : ((c.toNat : Int) != 10) = !decide (c = 10) := by simp only [bne,be10]
variable {p : Bool} {F : Nat} {h : H}
theorem fail_eq : cf p (F + 1) 22 [] h = some (off,h) := by
 rw [cf_step (a := a22) rfl rfl (by simp [a22])]
 simp [a22,r22_0,off_eq]
theorem letter_eq (c : UInt8) : cf p (F + 1) 71 [.int .u8 c.toNat] h = some (.bool (small c),h) := by
 rw [cf_step (a := a71) rfl rfl (by simp [a71])]
 have e := small_p c
 by_cases h1 : (c.toNat : Int) ≥ 97
 ·simp [a71,r71_0,r71_1,h1] at e ⊢
  exact e
 ·simp [a71,r71_0,r71_1,h1] at e ⊢
  exact e
theorem digit_eq (c : UInt8) : cf p (F + 1) 73 [.int .u8 c.toNat] h = some (.bool (digit c),h) := by
 rw [cf_step (a := a73) rfl rfl (by simp [a73])]
 have e := digit_p c
 by_cases h1 : (c.toNat : Int) ≥ 48
 ·simp [a73,r73_0,r73_1,h1] at e ⊢
  exact e
 ·simp [a73,r73_0,r73_1,h1] at e ⊢
  exact e
theorem marks_p (c : UInt8) : decide (Lib.indexByte str47_45_95_46.data.toList (c.toNat : Int).toNat.toUInt8 ≥ 0) = (c == 47 || c == 45 || c == 95 || c == 46) :=
 Go.Rn.u8 (p := fun c => decide (Lib.indexByte str47_45_95_46.data.toList (c.toNat : Int).toNat.toUInt8 ≥ 0) = (c == 47 || c == 45 || c == 95 || c == 46)) (by decide +kernel) c
theorem upper_p (c : UInt8) : (decide ((c.toNat : Int) ≥ 65) && decide ((c.toNat : Int) ≤ 90)) = (decide (65 ≤ c) && decide (c ≤ 90)) :=
 Go.Rn.u8 (p := fun c => (decide ((c.toNat : Int) ≥ 65) && decide ((c.toNat : Int) ≤ 90)) = (decide (65 ≤ c) && decide (c ≤ 90))) (by decide +kernel) c
theorem place_eq (c : UInt8) : cf p (F + 2) 75 [.int .u8 c.toNat] h = some (.bool (bare c),h) := by
 rw [cf_step (a := a75) rfl rfl (by simp [a75])]
 have e1 := letter_eq (p := p) (F := F) (h := h) c
 have e2 := digit_eq (p := p) (F := F) (h := h) c
 have e3 : cf p (F + 1) 105 [.string str47_45_95_46,.int .u8 c.toNat] h = some (.int .i64 (Lib.indexByte str47_45_95_46.data.toList (c.toNat : Int).toNat.toUInt8),h) := by
  rw [cf_X rfl];rfl
 have e4 := marks_p c
 have e5 := upper_p c
 generalize Lib.indexByte str47_45_95_46.data.toList (c.toNat : Int).toNat.toUInt8 = ix at *
 unfold bare
 have e6 : (small c || digit c || decide (65 ≤ c) && decide (c ≤ 90) || c == 47 || c == 45 || c == 95 || c == 46) = (small c || digit c || (decide ((c.toNat : Int) ≥ 65) && decide ((c.toNat : Int) ≤ 90)) || decide (ix ≥ 0)) := by
  rw [e4,e5];simp [Bool.or_assoc]
 rw [e6]
 clear e4 e5 e6
 generalize small c = s1 at *
 generalize digit c = s2 at *
 cases s1
 ·cases s2
  ·by_cases h1 : (c.toNat : Int) ≥ 65
   ·by_cases h2 : (c.toNat : Int) ≤ 90
    ·simp [a75,r75_0,r75_1,e1,e2,e3,h1,h2]
    ·simp [a75,r75_0,r75_1,e1,e2,e3,h1,h2]
   ·simp [a75,r75_0,r75_1,e1,e2,e3,h1]
  ·simp [a75,r75_0,r75_1,e1,e2,e3]
 ·simp [a75,r75_0,r75_1,e1,e2,e3]
theorem Ans.to_eq {x : Res} {v0 : Value} {h0 : H} (a : Ans x fun v h' => v = v0 ∧ h' = h0) : x = some (v0,h0) := by
 obtain ⟨v,h',rfl,rfl,rfl⟩ := a
 rfl
theorem Ans.of_eq {x : Res} {v0 : Value} {h0 : H} {Q : Value → H → Prop} (e : x = some (v0,h0)) (q : Q v0 h0) : Ans x Q := ⟨v0,h0,e,q⟩
theorem drop_cons {l : Bs} {i : Nat} {c : UInt8} (hc : l[i]? = some c) : l.drop i = c :: l.drop (i + 1) := by
 have hi := (List.getElem?_eq_some_iff.1 hc).1
 rw [List.drop_eq_getElem_cons hi]
 congr 1
 have := (List.getElem?_eq_some_iff.1 hc).2
 exact this
theorem count_eq {g : FuncId} {q : UInt8 → Bool} (hg : ∀ (c : UInt8),cf p F g [.int .u8 c.toNat] h = some (.bool (q c),h)) (l : Bs) (hF : l.length < F) (hl : l.length < 9223372036854775807) :
  cf p (F + 1) 72 [vs l,.func (.func g) #[] #[]] h = some (vi (l.takeWhile q).length,h) := by
 rw [cf_step (a := a72) rfl rfl (by simp [a72])]
 apply Ans.to_eq
 simp [a72,r72_0,r72_1]
 refine loop_rule (fun m s h' => ∃ i : Nat,i ≤ l.length ∧ m = l.length - i ∧ h' = h ∧ s = [(0,vs l),(1,.func (.func g) #[] #[]),(5,vi i)] ∧ i + ((l.drop i).takeWhile q).length = (l.takeWhile q).length)
  ?_ F (l.length - 0) _ h (by omega) ⟨0,by omega,rfl,rfl,rfl,by simp⟩
 rintro m s h' again ⟨i,hi,rfl,rfl,rfl,hq⟩ hag
 by_cases hlt : i < l.length
 ·obtain ⟨c,hc⟩ : ∃ c,l[i]? = some c := ⟨_,List.getElem?_eq_getElem hlt⟩
  have hd := drop_cons hc
  have hlt' : (i : Int) < l.length := by omega
  cases hqc : q c with
  | true =>
   simp [l72_4,r72_2,r72_3,atS_ofB hc,hg,hqc,hlt,wrap_id]
   rw [wrap_id (by omega) (by omega)]
   refine hag _ _ _ ?_ ⟨i + 1,by omega,rfl,rfl,by simp,?_⟩
   ·omega
   ·rw [← hq,hd,List.takeWhile_cons,if_pos hqc];simp;omega
  | false =>
   simp [l72_4,r72_2,r72_5,atS_ofB hc,hg,hqc,hlt]
   refine Ans.of ⟨?_,rfl⟩
   rw [← hq,hd,List.takeWhile_cons,if_neg (by simp [hqc])];simp
 ·have : i = l.length := by omega
  subst this
  simp [l72_4,r72_2,r72_5]
  refine Ans.of ⟨?_,rfl⟩
  rw [← hq];simp
end Go.Proofs.YtnoghchcboiojaaGreatDoor
end
section
set_option maxRecDepth 100000
namespace Go.Proofs.YtnoghchcboiojaaGreatDoor
open Go.Ev
open Go.Rn (Bs small digit bare blank hex)
variable {p : Bool} {F : Nat} {h : H}
def hexI (c : UInt8) : Int := match hex c with
 | some x => x.toNat
 | none => -1
theorem hex1 : ∀ c : UInt8,digit c = true → IntKind.i64.wrap (IntKind.u8.wrap ((c.toNat : Int) - 48)) = hexI c := Go.Rn.u8 (p := fun c => digit c = true → IntKind.i64.wrap (IntKind.u8.wrap ((c.toNat : Int) - 48)) = hexI c) (by decide +kernel)
theorem hex2 : ∀ c : UInt8,digit c = false → 97 ≤ (c.toNat : Int) → (c.toNat : Int) ≤ 102 → IntKind.i64.wrap (IntKind.i64.wrap (IntKind.u8.wrap ((c.toNat : Int) - 97)) + 10) = hexI c := Go.Rn.u8 (p := fun c => digit c = false → 97 ≤ (c.toNat : Int) → (c.toNat : Int) ≤ 102 → IntKind.i64.wrap (IntKind.i64.wrap (IntKind.u8.wrap ((c.toNat : Int) - 97)) + 10) = hexI c) (by decide +kernel)
theorem hex3 : ∀ c : UInt8,digit c = false → 65 ≤ (c.toNat : Int) → (c.toNat : Int) ≤ 70 → IntKind.i64.wrap (IntKind.i64.wrap (IntKind.u8.wrap ((c.toNat : Int) - 65)) + 10) = hexI c := Go.Rn.u8 (p := fun c => digit c = false → 65 ≤ (c.toNat : Int) → (c.toNat : Int) ≤ 70 → IntKind.i64.wrap (IntKind.i64.wrap (IntKind.u8.wrap ((c.toNat : Int) - 65)) + 10) = hexI c) (by decide +kernel)
theorem hex4 : ∀ c : UInt8,digit c = false → ¬ (97 ≤ (c.toNat : Int) ∧ (c.toNat : Int) ≤ 102) → ¬ (65 ≤ (c.toNat : Int) ∧ (c.toNat : Int) ≤ 70) → hexI c = -1 := Go.Rn.u8 (p := fun c => digit c = false → ¬ (97 ≤ (c.toNat : Int) ∧ (c.toNat : Int) ≤ 102) → ¬ (65 ≤ (c.toNat : Int) ∧ (c.toNat : Int) ≤ 70) → hexI c = -1) (by decide +kernel)
theorem value_eq (c : UInt8) : cf p (F + 2) 150 [.int .u8 c.toNat] h = some (vi (hexI c),h) := by
 rw [cf_step (a := a150) rfl rfl (by simp [a150])]
 have e2 := digit_eq (p := p) (F := F) (h := h) c
 have q1 := hex1 c
 have q2 := hex2 c
 have q3 := hex3 c
 have q4 := hex4 c
 generalize hexI c = z at *
 cases hd : digit c with
 | true =>
  rw [hd] at e2 q1
  simp [a150,r150_0,r150_1,r150_2,e2,q1 rfl]
 | false =>
  rw [hd] at e2
  by_cases h1 : 97 ≤ (c.toNat : Int)
  ·by_cases h2 : (c.toNat : Int) ≤ 102
   ·simp [a150,r150_0,r150_1,r150_3,r150_4,e2,h1,h2,q2 hd h1 h2]
   ·have h3 : ¬ (c.toNat : Int) ≤ 70 := by omega
    have h4 : (65 : Int) ≤ c.toNat := by omega
    simp [a150,r150_0,r150_1,r150_3,r150_5,r150_7,e2,h1,h2,h3,h4,q4 hd (fun q => h2 q.2) (fun q => h3 q.2)]
  ·by_cases h4 : (65 : Int) ≤ c.toNat
   ·by_cases h3 : (c.toNat : Int) ≤ 70
    ·simp [a150,r150_0,r150_1,r150_3,r150_5,r150_6,e2,h1,h3,h4,q3 hd h4 h3]
    ·simp [a150,r150_0,r150_1,r150_3,r150_5,r150_7,e2,h1,h3,h4,q4 hd (fun q => h1 q.1) (fun q => h3 q.2)]
   ·simp [a150,r150_0,r150_1,r150_3,r150_5,r150_7,e2,h1,h4,q4 hd (fun q => h1 q.1) (fun q => h4 q.1)]
def uor (k : IntKind) (a b : Int) : Int := k.wrap (BitVec.ofInt k.bits a ||| BitVec.ofInt k.bits b).toNat
def uand (k : IntKind) (a b : Int) : Int := k.wrap (BitVec.ofInt k.bits a &&& BitVec.ofInt k.bits b).toNat
@[simp] theorem intBin_or (K : IntKind) (x y : Int) : intBin .or K x y = some (.int K (uor K x y)) := nr rfl
@[simp] theorem intBin_and (K : IntKind) (x y : Int) : intBin .and K x y = some (.int K (uand K x y)) := nr rfl
@[simp] theorem shl_4 (x : Int) : intShift .shl .i64 x 4 = some (.int .i64 (IntKind.i64.wrap (x * 16))) := nr rfl
theorem hex_lt : ∀ (c x : UInt8),hex c = some x → x.toNat < 16 := by
 intro c
 exact Go.Rn.u8 (p := fun c => ∀ x,hex c = some x → x.toNat < 16) (by decide +kernel) c
theorem or_fin : ∀ m n : Fin 16,IntKind.u8.wrap (uor .i64 (IntKind.i64.wrap ((m.val : Int) * 16)) n.val) = ((16 * UInt8.ofNat m.val + UInt8.ofNat n.val).toNat : Int) := by decide +kernel
theorem or_hex {a b x y : UInt8} (ha : hex a = some x) (hb : hex b = some y) : IntKind.u8.wrap (uor .i64 (IntKind.i64.wrap ((x.toNat : Int) * 16)) y.toNat) = ((16 * x + y).toNat : Int) := by
 have := or_fin ⟨x.toNat,hex_lt a x ha⟩ ⟨y.toNat,hex_lt b y hb⟩
 simpa using this
def esc : Bs → Option (UInt8 × Nat)
 | [] => none
 | e :: r => if e = 34 ∨ e = 92 then some (e,1) else if e = 110 then some (10,1) else if e = 120 then match r with
  | a :: b :: _ => match hex a,hex b with
   | some x,some y => some (16 * x + y,3)
   | _,_ => none
  | _ => none
  else none
def escV : Option (UInt8 × Nat) → Value
 | some (x,n) => .tuple ⟨[.int .u8 x.toNat,vi n]⟩
 | none => off
theorem lit_nil : ({ data := #[] } : ByteArray) = ofB [] := rfl
theorem escape_eq (l : Bs) : cf p (F + 3) 106 [vs l] h = some (escV (esc l),h) := by
 rw [cf_step (a := a106) rfl rfl (by simp [a106])]
 have e1 := fail_eq (p := p) (F := F + 1) (h := h)
 have e2 := fun c => value_eq (p := p) (F := F) (h := h) c
 cases l with
 | nil => simp [a106,r106_0,r106_1,r106_2,e1,lit_nil,ofB_beq,esc,escV]
 | cons e r =>
  have g0 : atS (ofB (e :: r)) 0 h = some (.int .u8 e.toNat,h) := atS_ofB (i := 0) rfl
  by_cases h1 : e = 34
  ·subst h1
   simp [a106,r106_0,r106_1,r106_3,r106_4,lit_nil,ofB_beq,g0,esc,escV]
  by_cases h2 : e = 92
  ·subst h2
   simp [a106,r106_0,r106_1,r106_3,r106_4,lit_nil,ofB_beq,g0,esc,escV]
  by_cases h3 : e = 110
  ·subst h3
   simp [a106,r106_0,r106_1,r106_3,r106_5,r106_6,lit_nil,ofB_beq,g0,esc,escV]
  by_cases h4 : e = 120
  ·subst h4
   match r with
   | [] => simp [a106,r106_0,r106_1,r106_3,r106_5,r106_7,r106_9,r106_10,lit_nil,ofB_beq,g0,esc,escV,e1]
   | [a] => simp [a106,r106_0,r106_1,r106_3,r106_5,r106_7,r106_9,r106_10,lit_nil,ofB_beq,g0,esc,escV,e1]
   | a :: b :: r =>
    have g1 : atS (ofB (120 :: a :: b :: r)) 1 h = some (.int .u8 a.toNat,h) := atS_ofB (i := 1) rfl
    have g2 : atS (ofB (120 :: a :: b :: r)) 2 h = some (.int .u8 b.toNat,h) := atS_ofB (i := 2) rfl
    have hl : (3 : Int) ≤ (r.length : Int) + 1 + 2 := by omega
    cases ha : hex a with
    | none =>
     have ha' : hexI a = -1 := by simp [hexI,ha]
     simp [a106,r106_0,r106_1,r106_3,r106_5,r106_7,r106_9,r106_10,lit_nil,ofB_beq,g0,g1,g2,esc,escV,e1,e2,hl,ha,ha']
    | some x =>
     have ha' : hexI a = x.toNat := by simp [hexI,ha]
     have hx : (0 : Int) ≤ x.toNat := by omega
     cases hb : hex b with
     | none =>
      have hb' : hexI b = -1 := by simp [hexI,hb]
      simp [a106,r106_0,r106_1,r106_3,r106_5,r106_7,r106_9,r106_10,lit_nil,ofB_beq,g0,g1,g2,esc,escV,e1,e2,hl,ha,ha',hb,hb']
     | some y =>
      have hb' : hexI b = y.toNat := by simp [hexI,hb]
      have hy : (0 : Int) ≤ y.toNat := by omega
      simp [a106,r106_0,r106_1,r106_3,r106_5,r106_7,r106_9,r106_10,d106_8,lit_nil,ofB_beq,g0,g1,g2,esc,escV,e1,e2,hl,ha,ha',hb,hb',-UInt8.toNat_add,-UInt8.toNat_mul]
      exact or_hex ha hb
  ·simp [a106,r106_0,r106_1,r106_3,r106_5,r106_7,r106_9,r106_10,lit_nil,ofB_beq,g0,esc,escV,e1,h1,h2,h3,h4]
end Go.Proofs.YtnoghchcboiojaaGreatDoor
end
section
set_option maxRecDepth 100000
namespace Go.Proofs.YtnoghchcboiojaaGreatDoor
open Go.Ev
open Go.Rn (Bs Tok small digit bare blank hex quo quo_cons quo_nil)
variable {p : Bool} {F : Nat} {h : H}
def ByteR (_ : H) (cs : List Value) (c : UInt8) : Prop := cs = [.int .u8 c.toNat]
theorem quo_esc (r : Bs) : quo (92 :: r) = match esc r with
  | some (x,n) => (quo (r.drop n)).map fun q => (x :: q.1,q.2)
  | none => none := by
 rw [quo_cons]
 simp only [show ¬ (92 : UInt8) = 34 by decide,if_false,show ((92 : UInt8) < 32 || (92 : UInt8) = 127) = false by decide,ne_eq,not_true_eq_false]
 cases r with
 | nil => simp [esc]
 | cons e r1 =>
  simp only [esc,Bool.or_eq_true,decide_eq_true_eq,Bool.false_eq_true,if_false]
  by_cases h1 : e = 34 ∨ e = 92
  ·simp [h1]
  ·rw [if_neg h1,if_neg h1]
   by_cases h2 : e = 110
   ·simp [h2]
   ·rw [if_neg h2,if_neg h2]
    by_cases h3 : e = 120
    ·subst h3
     simp only [if_true]
     match r1 with
     | [] => rfl
     | [a] => rfl
     | a :: b :: r2 =>
      simp only
      cases hex a <;> cases hex b <;> simp
    ·rw [if_neg h3,if_neg h3]
theorem esc_len {l : Bs} {x : UInt8} {n : Nat} (e : esc l = some (x,n)) : n ≤ l.length ∧ 1 ≤ n := by
 unfold esc at e
 split at e
 ·cases e
 ·rename_i c r
  split at e
  ·cases e;simp
  ·split at e
   ·cases e;simp
   ·split at e
    ·split at e
     ·split at e
      ·cases e;simp
      ·cases e
     ·cases e
    ·cases e
def toStr (v : Value) (h : H) : Option (Value × H) := match v with
  | .slice none 0 0 => some (.string .empty,h)
  | .slice (some ⟨b,o,none⟩) n _ => if n = 0 then some (.string .empty,h) else ((rd h b o n).bind strOf).map fun l => (.string ⟨⟨l⟩⟩,h)
  | _ => none
@[simp ↓ high] theorem evOp_toStr {x : Operand} {s : Env} : evOp (.conv .toString x) s h = toStr (aeval s x) h := by
 simp only [evOp,toStr]
 generalize aeval s x = v
 split <;> simp_all
theorem toText {ok : Nat → Prop} {v : Value} {xs : Bs} (b : Bld ok 1 ByteR h v xs) : toStr v h = some (vs xs,h) := by
 rcases b with ⟨rfl,rfl⟩ | ⟨b,cs,an,rfl,hk,hg,hl,hi⟩
 ·rfl
 ·have hcs : cs = xs.map fun c => Value.int .u8 c.toNat := by
   apply List.ext_getElem?
   intro i
   simp only [List.getElem?_map]
   cases hx : xs[i]? with
   | none =>
    have := List.getElem?_eq_none_iff.1 hx
    simp only [Option.map_none,List.getElem?_eq_none_iff]
    omega
   | some c =>
    have h1 := hi i c hx
    have h2 : ((cs.drop (i * 1)).take 1)[0]? = some (.int .u8 c.toNat) := by rw [show (cs.drop (i * 1)).take 1 = _ from h1];rfl
    simpa using h2
  have hs : ∀ ys : Bs,strOf (ys.map fun c => Value.int .u8 c.toNat) = some ys := by
   intro ys
   induction ys with
   | nil => rfl
   | cons y ys ih => simp [strOf,ih]
  subst hcs
  unfold toStr
  by_cases hz : xs.length = 0
  ·have : xs = [] := List.length_eq_zero_iff.1 hz
   subst this
   rfl
  ·simp only [rd]
   rw [hget_eq,hg]
   simp [hz]
   exact ⟨xs,by rw [List.take_of_length_le (by simp)];exact hs xs,rfl⟩
theorem ctl_p (c : UInt8) : (decide ((c.toNat : Int) < 32) || decide (c = 127)) = (decide (c < 32) || decide (c = 127)) :=
 Go.Rn.u8 (p := fun c => (decide ((c.toNat : Int) < 32) || decide (c = 127)) = (decide (c < 32) || decide (c = 127))) (by decide +kernel) c
theorem kept_set {g : H} {b : Nat} {x : Blk} (k : Kept h g []) (hb : h.size ≤ b) : Kept h (g.setIfInBounds b x) [] :=
 ⟨by simpa using k.1,fun c hc hn => by rw [set_other (by omega)];exact k.2 c hc hn⟩
theorem kept_of {g g' : H} (k : Kept h g []) (hs : g.size ≤ g'.size) (hg : ∀ b,b < h.size → hget g' b = hget g b) : Kept h g' [] :=
 ⟨Nat.le_trans k.1 hs,fun b hb _ => (hg b hb).trans (k.2 b hb (by simp))⟩
theorem bld_put1 {α : Type} {ok : Nat → Prop} {w bytes : Nat} {R : H → List Value → α → Prop} {v : Value} {xs : List α} (s : Bld ok w R h v xs) (new : List Value) {x : α} (hn : new.length = w) (hb : (xs.length + 1) * bytes ≤ 2 ^ 47)
  (hok : ok (h.size + 1)) (hR : ∀ h1 h2,KeptC h1 h2 [] → ∀ cs,∀ y ∈ xs,R h1 cs y → R h2 cs y) (hx : ∀ h',KeptC h h' [] → R h' new x) :
  ∃ v' h',appendTo (Ev.newRow h new w []) w bytes v 1 new = some (v',h') ∧ Bld ok w R h' v' (xs ++ [x]) ∧ KeptC h h' [] ∧ (∀ b,b < h.size → ¬ ok b → hget h' b = hget h b) := by
 have k0 := rowKept h new w []
 have s1 := s.kept k0 (by simp) fun cs y hy q => hR _ _ k0.c cs y hy q
 obtain ⟨v',h',e,h1,h2,_,h4,_⟩ := s1.app (x := x) (bytes := bytes) hn hb (by simpa using hok) (fun h' k cs y hy q => hR _ _ k cs y hy q) fun h' k => hx h' (k0.c.trans k)
 refine ⟨v',h',e,h1,k0.c.trans h2,fun b hb hn => ?_⟩
 rw [h4 b (by have := k0.1;omega) (s1.ne hn),k0.get hb (by simp)]
theorem quoted_spec (l : Bs) (hne : l ≠ []) (hF : l.length + 1 < F) (hl : l.length < 140737488355328) : Ans (cf p (F + 4) 76 [vs l] h) fun v h' => Kept h h' [] ∧
  v = match quo l.tail with
   | some (s,r) => .tuple ⟨[.agg ⟨tokC (.quoted s)⟩,vi (l.length - r.length)]⟩
   | none => off := by
 rw [cf_step (a := a76) rfl rfl (by simp [a76])]
 simp [a76,r76_0,r76_1,r76_2]
 have kb := rowKept h [vi 0,vs [],vi 0] 0 []
 have hb0 : hget (Ev.newRow h [vi 0,vs [],vi 0] 0 []) h.size = some (.cells [vi 0,vs [],vi 0] 0 true []) := by simp
 rw [lit_nil]
 generalize hg0 : Ev.newRow h [vi 0,vs [],vi 0] 0 [] = g0 at *
 have hs0 : h.size < g0.size := by rw [← hg0];simp
 have hl1 : 1 ≤ l.length := List.length_pos_iff.2 hne
 refine loop_rule (fun m s g => ∃ (i : Nat) (v : Value) (acc : Bs),1 ≤ i ∧ i ≤ l.length ∧ m = l.length + 1 - i ∧ Kept h g [] ∧ h.size < g.size ∧ hget g h.size = some (.cells [vi 0,vs [],vi 0] 0 true []) ∧
   s = [(0,vs l),(2,.pointer (some ⟨h.size,0,none⟩)),(4,v),(5,vi i)] ∧ Bld (fun b => h.size < b) 1 ByteR g v acc ∧ acc.length ≤ i ∧
   quo l.tail = (quo (l.drop i)).map fun q => (acc ++ q.1,q.2))
  ?_ (F + 3) (l.length + 1 - 1) _ _ (by omega) ⟨1,_,[],by omega,hl1,rfl,kb,hs0,hb0,rfl,Bld.nil _ _ _ _,by simp,by simp⟩
 rintro m s g again ⟨i,v,acc,h1,h2,rfl,hk,hs,hb,rfl,hB,hal,hq⟩ hag
 have e1 := fun g => fail_eq (p := p) (F := F + 2) (h := g)
 by_cases hlt : i < l.length
 ·obtain ⟨c,hc⟩ : ∃ c,l[i]? = some c := ⟨_,List.getElem?_eq_getElem hlt⟩
  have hd := drop_cons hc
  have hlt' : (i : Int) < l.length := by omega
  have g1 : atS (ofB l) (i : Int) g = some (.int .u8 c.toNat,g) := atS_ofB hc
  rw [hd] at hq
  rw [quo_cons] at hq
  have ht := toText hB
  by_cases c1 : c = 34
  ·subst c1
   rw [if_pos rfl] at hq
   simp (disch := first|omega|(simp only [zS];first|done|omega)) [l76_15,r76_3,r76_4,r76_5,r76_6,hlt',g1,ht,hb,wrap_id]
   refine Ans.of ⟨?_,?_⟩
   ·exact kept_set hk (Nat.le_refl _)
   ·have e3 : (i : Int) + 1 = (l.length : Int) - ((l.drop (i + 1)).length : Int) := by rw [List.length_drop];omega
    rw [hq]
    simp only [Option.map_some,List.append_nil,e3]
    rfl
  have c1' : ¬ (c = 34) := c1
  rw [if_neg c1] at hq
  by_cases c2 : (decide (c < 32) || decide (c = 127)) = true
  ·rw [if_pos c2] at hq
   have c2' := (ctl_p c).trans c2
   by_cases c3 : (c.toNat : Int) < 32
   ·simp (disch := first|omega|(simp only [zS];first|done|omega)) [l76_15,r76_3,r76_4,r76_5,r76_7,r76_8,hlt',g1,c1,c3,e1]
    refine Ans.of ⟨hk,?_⟩
    rw [hq];rfl
   ·simp [c3] at c2'
    subst c2'
    simp (disch := first|omega|(simp only [zS];first|done|omega)) [l76_15,r76_3,r76_4,r76_5,r76_7,r76_8,hlt',g1,e1]
    refine Ans.of ⟨hk,?_⟩
    rw [hq];rfl
  rw [if_neg c2] at hq
  have c2' : ¬ ((c.toNat : Int) < 32) ∧ ¬ c = 127 := by
   have := (ctl_p c).trans (Bool.eq_false_iff.2 c2)
   simpa using this
  by_cases c4 : c = 92
  ·subst c4
   have e2 := fun g => escape_eq (p := p) (F := F) (h := g) (l.drop (i + 1))
   have g2 : cutS (ofB l) (i + 1) l.length g = some (vs (l.drop (i + 1)),g) := by
    rw [cutS_ofB (by omega) (Nat.le_refl _),List.take_of_length_le (by simp)]
   have hq2 := quo_esc (l.drop (i + 1))
   rw [quo_cons] at hq2
   simp only [if_neg c1,if_neg c2] at hq2
   rw [hq2] at hq
   have e3 : ((i : Int) + 1).toNat = i + 1 := by omega
   have e4 : (0 : Int) ≤ (i : Int) + 1 := by omega
   cases hesc : esc (l.drop (i + 1)) with
   | none =>
    rw [hesc] at hq
    simp (disch := first|omega|(simp only [zS];first|done|omega)) [l76_15,r76_3,r76_4,r76_5,r76_7,r76_9,r76_11,hlt',g1,c1,c2'.1,c2'.2,e2,hesc,escV,pcS_eq,g2,wrap_id,e3,e4]
    refine Ans.of ⟨hk,?_⟩
    rw [hq];rfl
   | some q =>
    obtain ⟨x,n⟩ := q
    rw [hesc] at hq
    have hn := esc_len hesc
    rw [List.length_drop] at hn
    obtain ⟨v',g',a1,a2,a3,a4⟩ := bld_put1 hB (bytes := 1) [.int .u8 x.toNat] (x := x) rfl (by omega) (by omega) (fun _ _ _ _ _ _ q => q) (fun _ _ => rfl)
    simp (disch := first|omega|(simp only [zS];first|done|omega)) [l76_15,r76_3,r76_4,r76_5,r76_7,r76_9,r76_11,r76_12,r76_13,r76_14,hlt',g1,c1,c2'.1,c2'.2,e2,hesc,escV,pcS_eq,g2,wrap_id,e3,e4,a1,srcOf,isText,List.getElem?_cons_zero,List.getElem?_cons_succ]
    have hsz := a3.1
    refine hag _ _ _ ?_ ⟨i + n + 1,v',acc ++ [x],by omega,by omega,rfl,kept_of hk hsz (fun b hb => a4 b (by have := hk.1;omega) (by omega)),by omega,by rw [a4 _ hs (by omega)];exact hb,?_,a2,by simp;omega,?_⟩
    ·omega
    ·simp (disch := first|omega|(simp only [zS];first|done|omega)) [wrap_id]
    ·rw [hq]
     simp [Option.map_map,Function.comp_def,List.drop_drop]
     rw [show i + 1 + n = i + n + 1 by omega]
  ·rw [if_pos c4] at hq
   obtain ⟨v',g',a1,a2,a3,a4⟩ := bld_put1 hB (bytes := 1) [.int .u8 c.toNat] (x := c) rfl (by omega) (by omega) (fun _ _ _ _ _ _ q => q) (fun _ _ => rfl)
   simp (disch := first|omega|(simp only [zS];first|done|omega)) [l76_15,r76_3,r76_4,r76_5,r76_7,r76_9,r76_10,r76_14,hlt',g1,c1,c2'.1,c2'.2,c4,a1,srcOf,isText]
   have hsz := a3.1
   refine hag _ _ _ ?_ ⟨i + 1,v',acc ++ [c],by omega,by omega,rfl,kept_of hk hsz (fun b hb => a4 b (by have := hk.1;omega) (by omega)),by omega,by rw [a4 _ hs (by omega)];exact hb,?_,a2,by simp;omega,?_⟩
   ·omega
   ·simp (disch := first|omega|(simp only [zS];first|done|omega)) [wrap_id]
   ·rw [hq];simp [Option.map_map,Function.comp_def]
 ·have : i = l.length := by omega
  subst this
  simp (disch := first|omega|(simp only [zS];first|done|omega)) [l76_15,r76_3,r76_16,r76_17,e1]
  refine Ans.of ⟨hk,?_⟩
  rw [hq,List.drop_eq_nil_iff.2 (Nat.le_refl _),quo_nil]
  rfl
end Go.Proofs.YtnoghchcboiojaaGreatDoor
end
section
set_option maxRecDepth 100000
namespace Go.Proofs.YtnoghchcboiojaaGreatDoor
open Go.Ev
open Go.Rn (Bs Tok small digit bare blank hex natOf numeral1)
variable {p : Bool} {F : Nat} {h : H}
theorem dig_val (c : UInt8) (hc : digit c = true) : Lib.digitVal c = some (c.toNat - 48) := by
 unfold Lib.digitVal
 unfold digit at hc
 simp only [Bool.and_eq_true,decide_eq_true_eq,UInt8.le_iff_toNat_le] at hc
 exact if_pos hc
theorem decFrom_digits : ∀ (d : Bs) (v : Nat),(∀ c ∈ d,digit c = true) → Lib.decFrom v d = some (d.foldl (fun v c => 10 * v + (c.toNat - 48)) v)
 | [],v,_ => rfl
 | c :: d,v,hd => by
  simp only [Lib.decFrom,dig_val c (hd c (by simp)),List.foldl_cons]
  rw [decFrom_digits d _ fun x hx => hd x (by simp [hx]),Nat.mul_comm v 10]
theorem atoi_digits (d : Bs) (hne : d ≠ []) (hd : ∀ c ∈ d,digit c = true) : Lib.atoi d = some (natOf d : Int) := by
 cases d with
 | nil => exact absurd rfl hne
 | cons c d =>
  have hc := hd c (by simp)
  have h1 : (c == 45) = false := by
   cases hq : c == 45 with
   | false => rfl
   | true => have := beq_iff_eq.1 hq;subst this;revert hc;decide
  have h2 : (c == 43) = false := by
   cases hq : c == 43 with
   | false => rfl
   | true => have := beq_iff_eq.1 hq;subst this;revert hc;decide
  simp only [Lib.atoi,h1,h2,Bool.false_eq_true,if_false,Lib.decNat,List.isEmpty_cons]
  rw [decFrom_digits _ _ hd]
  rfl
theorem takeWhile_digit (l : Bs) : ∀ c ∈ l.takeWhile digit,digit c = true := by
 induction l with
 | nil => simp
 | cons a l ih =>
  intro c hc
  rw [List.takeWhile_cons] at hc
  split at hc
  ·rename_i ha
   rcases List.mem_cons.1 hc with rfl | hc
   ·exact ha
   ·exact ih c hc
  ·simp at hc
theorem nat_le (d : Bs) (hd : ∀ c ∈ d,digit c = true) : natOf d < 10 ^ d.length := by
 have : ∀ (d : Bs) (v : Nat),(∀ c ∈ d,digit c = true) → d.foldl (fun v c => 10 * v + (c.toNat - 48)) v < (v + 1) * 10 ^ d.length := by
  intro d
  induction d with
  | nil => intro v _;simp
  | cons c d ih =>
   intro v hd
   have hc := hd c (by simp)
   unfold digit at hc
   simp only [Bool.and_eq_true,decide_eq_true_eq,UInt8.le_iff_toNat_le] at hc
   have h57 : (57 : UInt8).toNat = 57 := rfl
   have := ih (10 * v + (c.toNat - 48)) fun x hx => hd x (by simp [hx])
   simp only [List.foldl_cons,List.length_cons,Nat.pow_succ]
   refine Nat.lt_of_lt_of_le this ?_
   rw [Nat.mul_comm (10 ^ d.length) 10,← Nat.mul_assoc]
   exact Nat.mul_le_mul_right _ (by omega)
 have := this d 0 hd
 simpa [natOf] using this
def t74 : ACode := .seq (.region r74_4 [0,2,4,5]) (.seq (.region r74_5 [0,2,4,5,6]) (.seq (.seq (.region r74_6 [2,4,5,6,56]) (.cond (.tmp 56) (.region r74_7 [2,4,5,6]) .skip)) (.seq (.region r74_8 [2,4,5,7]) (.seq (.seq (.region r74_9 [2,4,5,7,64]) (.cond (.tmp 64) (.region r74_10 [2,4,5,7]) .skip)) (.seq (.seq (.region r74_11 [2,4,5,7,67]) (.cond (.tmp 67) (.region r74_12 [2,4,5,7]) .skip)) (.seq (.region r74_13 [2,3]) .ret))))))
theorem a74_res : a74.results = [.cellN 2 3,.tmp 3] := rfl
theorem a74_split : a74 = ⟨75,(.seq (.region r74_0 [0,2]) (.seq (.region r74_1 [0,2,4]) (.seq (.seq (.region r74_2 [0,2,4,11]) (.cond (.tmp 11) (.region r74_3 [0,2,4]) .skip)) t74))),[.cellN 2 3,.tmp 3]⟩ := rfl
def numV (l : Bs) : Option (Int × Bs) → Value
 | some (n,r) => .tuple ⟨[.agg ⟨tokC (.num n)⟩,vi (l.length - r.length)]⟩
 | none => off
def u74 : ACode := .seq (.region r74_8 [2,4,5,7]) (.seq (.seq (.region r74_9 [2,4,5,7,64]) (.cond (.tmp 64) (.region r74_10 [2,4,5,7]) .skip)) (.seq (.seq (.region r74_11 [2,4,5,7,67]) (.cond (.tmp 67) (.region r74_12 [2,4,5,7]) .skip)) (.seq (.region r74_13 [2,3]) .ret)))
theorem numeral_end (minus : Bool) (l D R : Bs) (m : Nat) (hm : m = if minus then 1 else 0) (hlen : l.length = m + D.length + R.length) (hD : D ≠ []) (hdig : ∀ c ∈ D,digit c = true) (hD10 : D.length ≤ 10) (hl2 : l.length < 140737488355328)
  {g : H} {b : Nat} (hb : hget g b = some (.cells [vi 0,vs [],vi 0] 0 true [])) (hk : Kept h g []) (hbs : h.size ≤ b) {kn : K} {ke : Nat → K} :
  Ans (evC (F + 3) (cxOf (cf p (F + 3)) (cfX XD) [.cellN 2 3,.tmp 3]) u74 kn ke (endK (cfX XD) [.cellN 2 3,.tmp 3]) [(2,.pointer (some ⟨b,0,none⟩)),(4,vi m),(5,vi D.length),(6,vs D),(56,.bool false)] g [])
   fun v h' => Kept h h' [] ∧ v = numV l (if 2147483647 < natOf D then none else some (if minus = true then -(natOf D : Int) else (natOf D : Int),R)) := by
 have hbs' := lt_of_get hb
 have e1 := fun g => fail_eq (p := p) (F := F + 2) (h := g)
 have hs : (ofB D).size ≤ 18 := by show D.length ≤ 18;omega
 have hn : natOf D < 10000000000 := by
  have h1 := nat_le D hdig
  have h2 : 10 ^ D.length ≤ 10 ^ 10 := Nat.pow_le_pow_right (by decide) hD10
  have h3 : (10 : Nat) ^ 10 = 10000000000 := by decide
  omega
 have e2 : cf p (F + 3) 104 [vs D] g = some (.tuple ⟨[vi (natOf D),.nilIface]⟩,g) := by
  rw [cf_X (F := F + 2) rfl]
  simp only [xAtoi,if_pos hs,show (ofB D).data.toList = D from rfl,atoi_digits D hD hdig]
 have hout : ((l.length : Int) - (R.length : Int)) = (m : Int) + (D.length : Int) := by omega
 by_cases k1 : 2147483647 < natOf D
 ·have k1' : (2147483647 : Int) < natOf D := by omega
  rw [if_pos k1]
  simp (disch := first|omega|(simp only [zS];first|done|omega)) [u74,r74_8,r74_9,r74_10,e2,e1,k1',List.getElem?_cons_zero,List.getElem?_cons_succ]
  exact Ans.of ⟨hk,rfl⟩
 ·have k1' : ¬ ((2147483647 : Int) < natOf D) := by omega
  rw [if_neg k1]
  cases minus with
  | true =>
   simp at hm
   subst hm
   simp (disch := first|omega|(simp only [zS];first|done|omega)) [u74,r74_8,r74_9,r74_11,r74_12,r74_13,e2,e1,k1',List.getElem?_cons_zero,List.getElem?_cons_succ,hb,wrap_id]
   refine Ans.of ⟨kept_set hk hbs,?_⟩
   simp only [numV,hout]
   simp [tokC,kindOf,textOf,numOf,lit_nil]
  | false =>
   simp at hm
   subst hm
   simp (disch := first|omega|(simp only [zS];first|done|omega)) [u74,r74_8,r74_9,r74_11,r74_12,r74_13,e2,e1,k1',List.getElem?_cons_zero,List.getElem?_cons_succ,hb,wrap_id]
   refine Ans.of ⟨kept_set hk hbs,?_⟩
   simp only [numV,hout]
   simp [tokC,kindOf,textOf,numOf,lit_nil]
theorem numeral_tail (minus : Bool) (l l1 pre : Bs) (hl : l = pre ++ l1) (m : Nat) (hm : m = if minus then 1 else 0) (hpre : pre.length = m) (hF : l.length + 1 < F) (hl2 : l.length < 140737488355328)
  {g : H} {b : Nat} (hb : hget g b = some (.cells [vi 0,vs [],vi 0] 0 true [])) (hk : Kept h g []) (hbs : h.size ≤ b) {kn : K} {ke : Nat → K} :
  Ans (evC (F + 3) (cxOf (cf p (F + 3)) (cfX XD) [.cellN 2 3,.tmp 3]) t74 kn ke (endK (cfX XD) [.cellN 2 3,.tmp 3]) [(0,vs l),(2,.pointer (some ⟨b,0,none⟩)),(4,vi m)] g []) fun v h' => Kept h h' [] ∧ v = numV l (numeral1 minus l1) := by
 have hbs' := lt_of_get hb
 have hdig := takeWhile_digit l1
 have hsplit : l1.takeWhile digit ++ l1.dropWhile digit = l1 := List.takeWhile_append_dropWhile
 have e1 := fun g => fail_eq (p := p) (F := F + 2) (h := g)
 have e2 := count_eq (p := p) (F := F + 2) (h := g) (g := 73) (q := digit) (fun c => digit_eq c) l1 (by rw [hl] at hF;simp at hF;omega) (by rw [hl] at hl2;simp at hl2;omega)
 have e3 := fun c => letter_eq (p := p) (F := F + 2) (h := g) c
 unfold numeral1
 generalize hD : l1.takeWhile digit = D at *
 generalize hR : l1.dropWhile digit = R at *
 have hlen : l.length = m + D.length + R.length := by rw [hl,← hsplit,List.length_append,List.length_append,hpre];omega
 have c1 : cutS (ofB l) m l.length g = some (vs l1,g) := by
  rw [cutS_ofB (by omega) (Nat.le_refl _),hl,← hpre,List.drop_left,List.take_of_length_le (by simp)]
 have c2 : cutS (ofB l) m (m + D.length) g = some (vs D,g) := by
  rw [cutS_ofB (by omega) (by omega),hl,← hpre,List.drop_left,← hsplit,Nat.add_sub_cancel_left,List.take_left]
 have t1 : ((m : Int)).toNat = m := by omega
 have t2 : ((m : Int) + (D.length : Int)).toNat = m + D.length := by omega
 have n1 : (0 : Int) ≤ (m : Int) + (D.length : Int) := by omega
 simp (disch := first|omega|(simp only [zS];first|done|omega)) [t74,r74_4,pcS_eq,c1,e2,r74_5,wrap_id,t1,t2,n1,c2]
 have x1 := fun g => fail_eq (p := p) (F := F + 2) (h := g)
 by_cases k0 : D = []
 ·subst k0
  simp (disch := first|omega|(simp only [zS];first|done|omega)) [r74_6,r74_7,x1]
  exact Ans.of ⟨hk,by simp [numV]⟩
 have k0' : ¬ ((D.length : Int) = 0) := by have := List.length_pos_iff.2 k0;omega
 by_cases k1 : 10 < D.length
 ·have k1' : (10 : Int) < D.length := by omega
  simp (disch := first|omega|(simp only [zS];first|done|omega)) [r74_6,r74_7,x1,k0',k1',eqF]
  exact Ans.of ⟨hk,by simp [numV,k1]⟩
 have k1' : ¬ ((10 : Int) < D.length) := by omega
 obtain ⟨d0,D',hD0⟩ : ∃ d0 D',D = d0 :: D' := by
  cases D with
  | nil => exact absurd rfl k0
  | cons a b => exact ⟨a,b,rfl⟩
 have g0 : atS (ofB D) 0 g = some (.int .u8 d0.toNat,g) := atS_ofB (i := 0) (by rw [hD0];rfl)
 have hm01 : m = 0 ∨ m = 1 := by rw [hm];cases minus <;> simp
 have hhead : D.head? = some d0 := by rw [hD0];rfl
 by_cases k2 : d0 = 48 ∧ (1 < D.length ∨ minus = true)
 ·obtain ⟨rfl,k2⟩ := k2
  have hbad : numV l (if ((D = [] ∨ 10 < D.length) ∨ D.head? = some 48 ∧ (1 < D.length ∨ minus = true)) ∨ Option.any small R.head? = true then none
     else if 2147483647 < natOf D then none else some (if minus = true then -↑(natOf D) else ↑(natOf D),R)) = off := by
   rw [if_pos (.inl (.inr ⟨hhead,k2⟩))];rfl
  by_cases k3 : (1 : Int) < D.length
  ·simp (disch := first|omega|(simp only [zS];first|done|omega)) [r74_6,r74_7,x1,k0',k1',k3,g0,eqF]
   exact Ans.of ⟨hk,hbad.symm⟩
  ·have hmin : minus = true := by
    rcases k2 with k2 | k2
    ·omega
    ·exact k2
   have hm1 : m = 1 := by rw [hm,hmin];rfl
   subst hm1
   simp (disch := first|omega|(simp only [zS];first|done|omega)) [r74_6,r74_7,x1,k0',k1',k3,g0,eqF]
   exact Ans.of ⟨hk,hbad.symm⟩
 have hres : (if ((D = [] ∨ 10 < D.length) ∨ D.head? = some 48 ∧ (1 < D.length ∨ minus = true)) ∨ Option.any small R.head? = true then none
     else if 2147483647 < natOf D then none else some (if minus = true then -↑(natOf D) else (↑(natOf D) : Int),R)) = if Option.any small R.head? = true then none
     else if 2147483647 < natOf D then none else some (if minus = true then -↑(natOf D) else (↑(natOf D) : Int),R) := by
  have : ¬ ((D = [] ∨ 10 < D.length) ∨ D.head? = some 48 ∧ (1 < D.length ∨ minus = true)) := by
   rintro ((q | q) | ⟨q1,q2⟩)
   ·exact k0 q
   ·exact k1 q
   ·rw [hhead] at q1;cases q1;exact k2 ⟨rfl,q2⟩
  simp only [this,false_or]
 rw [hres]
 clear hres
 have q := fun h1 => numeral_end (p := p) (F := F) (h := h) minus l D R m hm hlen k0 hdig h1 hl2 hb hk hbs (kn := kn) (ke := ke)
 have q := q (by omega)
 simp [u74] at q
 cases R with
 | nil =>
  have hlen0 : ¬ ((m : Int) + (D.length : Int) < (l.length : Int)) := by rw [hlen];simp
  by_cases k4 : d0 = 48
  ·subst k4
   have k5 : ¬ ((1 : Int) < D.length) := fun q => k2 ⟨rfl,.inl (by omega)⟩
   have k6 : ¬ ((m : Int) = 1) := fun q => k2 ⟨rfl,.inr (by cases minus with | true => rfl | false => simp at hm;omega)⟩
   simp (disch := first|omega|(simp only [zS];first|done|omega)) [r74_6,r74_7,x1,k0',k1',k5,k6,g0,eqF,hlen0,wrap_id]
   exact q
  ·simp (disch := first|omega|(simp only [zS];first|done|omega)) [r74_6,r74_7,x1,k0',k1',k4,g0,eqF,hlen0,wrap_id]
   exact q
 | cons c R =>
  have hlen0 : (m : Int) + (D.length : Int) < (l.length : Int) := by rw [hlen];simp;omega
  have g1 : atS (ofB l) ((m : Int) + (D.length : Int)) g = some (.int .u8 c.toNat,g) := by
   have : l[m + D.length]? = some c := by
    rw [hl,← hsplit,List.getElem?_append_right (by omega),hpre,Nat.add_sub_cancel_left,List.getElem?_append_right (Nat.le_refl _)]
    simp
   have := atS_ofB (h := g) this
   simpa using this
  cases hc : small c with
  | true =>
   have hbad : numV l (if Option.any small (c :: R).head? = true then none else if 2147483647 < natOf D then none else some (if minus = true then -↑(natOf D) else (↑(natOf D) : Int),c :: R)) = off := by
    simp [hc,numV]
   by_cases k4 : d0 = 48
   ·subst k4
    have k5 : ¬ ((1 : Int) < D.length) := fun q => k2 ⟨rfl,.inl (by omega)⟩
    have k6 : ¬ ((m : Int) = 1) := fun q => k2 ⟨rfl,.inr (by cases minus with | true => rfl | false => simp at hm;omega)⟩
    simp (disch := first|omega|(simp only [zS];first|done|omega)) [r74_6,r74_7,x1,k0',k1',k5,k6,g0,g1,eqF,hlen0,wrap_id,e3,hc,-List.head?_cons]
    exact Ans.of ⟨hk,hbad.symm⟩
   ·simp (disch := first|omega|(simp only [zS];first|done|omega)) [r74_6,r74_7,x1,k0',k1',k4,g0,g1,eqF,hlen0,wrap_id,e3,hc,-List.head?_cons]
    exact Ans.of ⟨hk,hbad.symm⟩
  | false =>
   have hgood : Option.any small (c :: R).head? = false := by simp [hc]
   rw [hgood]
   by_cases k4 : d0 = 48
   ·subst k4
    have k5 : ¬ ((1 : Int) < D.length) := fun q => k2 ⟨rfl,.inl (by omega)⟩
    have k6 : ¬ ((m : Int) = 1) := fun q => k2 ⟨rfl,.inr (by cases minus with | true => rfl | false => simp at hm;omega)⟩
    simp (disch := first|omega|(simp only [zS];first|done|omega)) [r74_6,r74_7,x1,k0',k1',k5,k6,g0,g1,eqF,hlen0,wrap_id,e3,hc]
    exact q
   ·simp (disch := first|omega|(simp only [zS];first|done|omega)) [r74_6,r74_7,x1,k0',k1',k4,g0,g1,eqF,hlen0,wrap_id,e3,hc]
    exact q
theorem numeral_spec (l : Bs) (hne : l ≠ []) (hF : l.length + 1 < F) (hl : l.length < 140737488355328) : Ans (cf p (F + 4) 74 [vs l] h) fun v h' => Kept h h' [] ∧ v = numV l (Go.Rn.numeral l) := by
 rw [cf_step (a := a74) rfl rfl (by simp [a74])]
 rw [a74_split]
 obtain ⟨c,r,rfl⟩ : ∃ c r,l = c :: r := by
  cases l with
  | nil => exact absurd rfl hne
  | cons a b => exact ⟨a,b,rfl⟩
 have g0 : atS (ofB (c :: r)) 0 (Ev.newRow h [vi 0,vs [],vi 0] 0 []) = some (.int .u8 c.toNat,_) := atS_ofB (i := 0) rfl
 have kb := rowKept h [vi 0,vs [],vi 0] 0 []
 have hb0 : hget (Ev.newRow h [vi 0,vs [],vi 0] 0 []) h.size = some (.cells [vi 0,vs [],vi 0] 0 true []) := by simp
 by_cases h45 : c = 45
 ·subst h45
  have q := numeral_tail (p := p) (F := F) (h := h) true (45 :: r) r [45] rfl 1 rfl rfl hF hl hb0 kb (Nat.le_refl _) (kn := endK (cfX XD) [.cellN 2 3,.tmp 3]) (ke := noK)
  simp [r74_0,r74_1,r74_2,r74_3,lit_nil,g0]
  exact q
 ·have q := numeral_tail (p := p) (F := F) (h := h) false (c :: r) (c :: r) [] rfl 0 rfl rfl hF hl hb0 kb (Nat.le_refl _) (kn := endK (cfX XD) [.cellN 2 3,.tmp 3]) (ke := noK)
  simp [r74_0,r74_1,r74_2,r74_3,lit_nil,g0,h45]
  have e : (some c == some (45 : UInt8)) = false := by simp [h45]
  simp only [Go.Rn.numeral,List.head?_cons,e,Bool.false_eq_true,if_false]
  exact q
end Go.Proofs.YtnoghchcboiojaaGreatDoor
end
section
set_option maxRecDepth 100000
namespace Go.Proofs.YtnoghchcboiojaaGreatDoor
open Go.Ev
open Go.Rn (Bs Tok small digit bare blank hex)
variable {p : Bool} {F : Nat} {h : H}
def tokV (l : Bs) : Option (Tok × Bs) → Value
 | some (t,r) => .tuple ⟨[.agg ⟨tokC t⟩,vi (l.length - r.length)]⟩
 | none => off
theorem take_while (l : Bs) (q : UInt8 → Bool) (g : H) : cutS (ofB l) 0 (l.takeWhile q).length g = some (vs (l.takeWhile q),g) := by
 have h1 : (l.takeWhile q).length ≤ l.length := by
  have := congrArg List.length (List.takeWhile_append_dropWhile (p := q) (l := l))
  rw [List.length_append] at this;omega
 rw [cutS_ofB (by omega) h1,List.drop_zero,Nat.sub_zero]
 have h2 : l.take (l.takeWhile q).length = l.takeWhile q := by
  conv => lhs;arg 2;rw [← List.takeWhile_append_dropWhile (p := q) (l := l)]
  exact List.take_left
 rw [h2]
theorem dropWhile_len (l : Bs) (q : UInt8 → Bool) : (l.length : Int) - (l.dropWhile q).length = (l.takeWhile q).length := by
 have := congrArg List.length (List.takeWhile_append_dropWhile (p := q) (l := l))
 rw [List.length_append] at this
 omega
theorem dropWhile_at (l : Bs) (q : UInt8 → Bool) : l[(l.takeWhile q).length]? = (l.dropWhile q).head? := by
 conv => lhs;arg 1;rw [← List.takeWhile_append_dropWhile (p := q) (l := l)]
 rw [List.getElem?_append_right (Nat.le_refl _),Nat.sub_self,List.head?_eq_getElem?]
theorem one_eq {l : Bs} {c : UInt8} (hc : l[0]? = some c) : Go.Rn.one l = if small c then (if (l.dropWhile small).head?.any digit then none else some (.name (l.takeWhile small),l.dropWhile small))
  else if digit c || c = 45 then (Go.Rn.numeral l).map fun p => (.num p.1,p.2)
  else if c = 47 then some (.place (l.takeWhile bare),l.dropWhile bare)
  else if c = 34 then (Go.Rn.quo l.tail).map fun p => (.quoted p.1,p.2)
  else none := by
 cases l with
 | nil => simp at hc
 | cons a r =>
  simp at hc
  subst hc
  rfl
theorem one_spec (l : Bs) (hne : l ≠ []) (hF : l.length + 2 < F) (hl : l.length < 140737488355328) : Ans (cf p (F + 5) 38 [vs l] h) fun v h' => Kept h h' [] ∧ v = tokV l (Go.Rn.one l) := by
 rw [cf_step (a := a38) rfl rfl (by simp [a38])]
 obtain ⟨c,hc⟩ : ∃ c,l[0]? = some c := ⟨_,List.getElem?_eq_getElem (List.length_pos_iff.2 hne)⟩
 have kb := rowKept h [vi 0,vs [],vi 0] 0 []
 have hb0 : hget (Ev.newRow h [vi 0,vs [],vi 0] 0 []) h.size = some (.cells [vi 0,vs [],vi 0] 0 true []) := by simp
 have hs0 : h.size < (Ev.newRow h [vi 0,vs [],vi 0] 0 []).size := by simp
 have g0 : ∀ g,atS (ofB l) 0 g = some (.int .u8 c.toNat,g) := fun g => atS_ofB (i := 0) hc
 have e1 := fun g => fail_eq (p := p) (F := F + 3) (h := g)
 have e2 := fun g => letter_eq (p := p) (F := F + 3) (h := g) c
 have e3 := fun g => digit_eq (p := p) (F := F + 3) (h := g) c
 have e4 := fun g => count_eq (p := p) (F := F + 3) (h := g) (g := 71) (q := small) (fun c => letter_eq c) l (by omega) (by omega)
 have e5 := fun g => count_eq (p := p) (F := F + 3) (h := g) (g := 75) (q := bare) (fun c => place_eq c) l (by omega) (by omega)
 have e6 := fun g => numeral_spec (p := p) (F := F) (h := g) l hne (by omega) hl
 have e7 := fun g => quoted_spec (p := p) (F := F) (h := g) l hne (by omega) hl
 have e8 := fun g (d : UInt8) => digit_eq (p := p) (F := F + 3) (h := g) d
 rw [one_eq hc]
 simp [a38,r38_0,r38_1,r38_2,lit_nil,g0,e2]
 generalize hgg : Ev.newRow h [vi 0,vs [],vi 0] 0 [] = g at *
 cases k1 : small c with
 | true =>
  have w1 := take_while l small g
  have w2 := dropWhile_len l small
  have w3 := dropWhile_at l small
  have w4 : (l.takeWhile small).length ≤ l.length := by omega
  generalize l.takeWhile small = T at *
  generalize l.dropWhile small = R at *
  cases R with
  | nil =>
   have hlen0 : ¬ ((T.length : Int) < l.length) := by simp at w2;omega
   simp (disch := first|omega|(simp only [zS];first|done|omega)) [r38_3,r38_4,r38_6,e4,hlen0,pcS_eq,w1,hb0]
   refine Ans.of ⟨kept_set kb (Nat.le_refl _),?_⟩
   simp [tokV,tokC,kindOf,textOf,numOf]
   omega
  | cons d R =>
   have hlen0 : (T.length : Int) < l.length := by simp at w2;omega
   have g1 : atS (ofB l) (T.length : Int) g = some (.int .u8 d.toNat,g) := atS_ofB (by rw [w3];rfl)
   cases hd : digit d with
   | true =>
    simp (disch := first|omega|(simp only [zS];first|done|omega)) [r38_3,r38_4,r38_5,e4,hlen0,g1,e8,hd,e1]
    exact Ans.of ⟨kb,rfl⟩
   | false =>
    simp (disch := first|omega|(simp only [zS];first|done|omega)) [r38_3,r38_4,r38_6,e4,hlen0,g1,e8,hd,e1,pcS_eq,w1,hb0]
    refine Ans.of ⟨kept_set kb (Nat.le_refl _),?_⟩
    simp [tokV,tokC,kindOf,textOf,numOf]
    simp at w2
    omega
 | false =>
  cases k2 : (digit c || decide (c = 45)) with
  | true =>
   cases k3 : digit c with
   | true =>
    have k45 : True := trivial
    simp (disch := first|omega|(simp only [zS];first|done|omega)) [r38_7,r38_8,e3,k3,k45]
    refine Ans.nextC (e6 g) ?_
    rintro v g' ⟨q1,rfl⟩
    have kb' := kb.trans q1
    have hb' := (q1.get hs0 (by simp)).trans hb0
    have hs' := lt_of_get hb'
    cases hq : Go.Rn.numeral l with
    | none =>
     simp (disch := first|omega|(simp only [zS];first|done|omega)) [numV]
     exact Ans.of ⟨kb',rfl⟩
    | some z =>
     obtain ⟨zn,zr⟩ := z
     simp (disch := first|omega|(simp only [zS];first|done|omega)) [numV,tokC,List.getElem?_cons_zero,List.getElem?_cons_succ,hb']
     exact Ans.of ⟨kept_set kb' (Nat.le_refl _),rfl⟩
   | false =>
    have k45 : (c = 45) = True := eq_true (by rw [k3] at k2;simpa using k2)
    simp (disch := first|omega|(simp only [zS];first|done|omega)) [r38_7,r38_8,e3,k3,k45]
    refine Ans.nextC (e6 g) ?_
    rintro v g' ⟨q1,rfl⟩
    have kb' := kb.trans q1
    have hb' := (q1.get hs0 (by simp)).trans hb0
    have hs' := lt_of_get hb'
    cases hq : Go.Rn.numeral l with
    | none =>
     simp (disch := first|omega|(simp only [zS];first|done|omega)) [numV]
     exact Ans.of ⟨kb',rfl⟩
    | some z =>
     obtain ⟨zn,zr⟩ := z
     simp (disch := first|omega|(simp only [zS];first|done|omega)) [numV,tokC,List.getElem?_cons_zero,List.getElem?_cons_succ,hb']
     exact Ans.of ⟨kept_set kb' (Nat.le_refl _),rfl⟩
  | false =>
   have k3 : digit c = false := by cases hd : digit c <;> simp [hd] at k2 ⊢
   have k45 : ¬ c = 45 := by rw [k3] at k2;simpa using k2
   by_cases k47 : c = 47
   ·have w1 := take_while l bare g
    have w2 := dropWhile_len l bare
    have w4 : (l.takeWhile bare).length ≤ l.length := by omega
    rw [if_pos k47]
    generalize l.takeWhile bare = T at *
    generalize l.dropWhile bare = R at *
    have k47 := eq_true k47
    simp (disch := first|omega|(simp only [zS];first|done|omega)) [r38_7,r38_9,r38_10,r38_11,e3,k3,k45,k47,e5,pcS_eq,w1,hb0]
    refine Ans.of ⟨kept_set kb (Nat.le_refl _),?_⟩
    simp [tokV,tokC,kindOf,textOf,numOf]
    omega
   ·rw [if_neg k47]
    by_cases k34 : c = 34
    ·rw [if_pos k34]
     have k34 := eq_true k34
     simp (disch := first|omega|(simp only [zS];first|done|omega)) [r38_7,r38_9,r38_12,r38_13,e3,k3,k45,k47,k34]
     refine Ans.nextC (e7 g) ?_
     rintro v g' ⟨q1,rfl⟩
     have kb' := kb.trans q1
     have hb' := (q1.get hs0 (by simp)).trans hb0
     have hs' := lt_of_get hb'
     cases hq : Go.Rn.quo l.tail with
     | none =>
      simp (disch := first|omega|(simp only [zS];first|done|omega)) []
      exact Ans.of ⟨kb',rfl⟩
     | some z =>
      obtain ⟨zn,zr⟩ := z
      simp (disch := first|omega|(simp only [zS];first|done|omega)) [tokC,List.getElem?_cons_zero,List.getElem?_cons_succ,hb']
      exact Ans.of ⟨kept_set kb' (Nat.le_refl _),rfl⟩
    ·rw [if_neg k34]
     simp (disch := first|omega|(simp only [zS];first|done|omega)) [r38_7,r38_9,r38_12,r38_14,e3,k3,k45,k47,k34,e1]
     exact Ans.of ⟨kb,rfl⟩
end Go.Proofs.YtnoghchcboiojaaGreatDoor
end
section
set_option maxRecDepth 100000
namespace Go.Proofs.YtnoghchcboiojaaGreatDoor
open Go.Ev
open Go.Rn (Bs Tok small digit bare blank hex lex lex_blank lex_hash lex_semi lex_one)
variable {p : Bool} {F : Nat} {h : H}
theorem one_np {v : Value} (e : oneCell v = true) : isPan v = false := by
 cases v <;> first
  | rfl
  | (simp [oneCell] at e)
theorem words_spec (l : Bs) (hF : l.length + 3 < F) (hl : l.length < 4398046511104) : Ans (cf p (F + 6) 19 [vs l] h) fun v h' => Kept h h' [] ∧ match lex l with
  | some ts => Bld (fun b => h.size ≤ b) 3 TokR h' v ts ∧ ts.length ≤ l.length
  | none => v = off := by
 rw [cf_step (a := a19) rfl rfl (by simp [a19])]
 simp [a19,r19_0,r19_1,r19_2]
 refine loop_rule (fun m s g => ∃ (i : Nat) (v : Value) (acc : List Tok),i ≤ l.length ∧ m = l.length - i ∧ Kept h g [] ∧ s = [(0,vs l),(3,v),(4,vi i)] ∧ Bld (fun b => h.size ≤ b) 3 TokR g v acc ∧ acc.length ≤ i ∧
   lex l = (lex (l.drop i)).map fun q => acc ++ q)
  ?_ (F + 5) (l.length - 0) _ _ (by omega) ⟨0,_,[],by omega,rfl,Kept.refl _ _,rfl,Bld.nil _ _ _ _,by simp,by simp⟩
 rintro m s g again ⟨i,v,acc,hi,rfl,hk,rfl,hB,hal,hq⟩ hag
 have hnp := one_np hB.sl.one
 by_cases hlt : i < l.length
 ·obtain ⟨c,hc⟩ : ∃ c,l[i]? = some c := ⟨_,List.getElem?_eq_getElem hlt⟩
  have hd := drop_cons hc
  have hlt' : (i : Int) < l.length := by omega
  have g1 : atS (ofB l) (i : Int) g = some (.int .u8 c.toNat,g) := atS_ofB hc
  rw [hd] at hq
  by_cases k1 : Go.Rn.blank c = true
  ·rw [lex_blank k1] at hq
   have hb : c = 32 ∨ c = 9 ∨ c = 13 := by simpa [Go.Rn.blank,or_assoc] using k1
   have fin : Ans (again [(0,vs l),(3,v),(4,vi ((i : Int) + 1))] g []) fun v h' => Kept h h' [] ∧ match lex l with
     | some ts => Bld (fun b => h.size ≤ b) 3 TokR h' v ts ∧ ts.length ≤ l.length
     | none => v = off := hag (l.length - (i + 1)) _ _ (by omega) ⟨i + 1,v,acc,by omega,rfl,hk,by simp,hB,by omega,hq⟩
   rcases hb with rfl | rfl | rfl
   ·simp (disch := first|omega|(simp only [zS];first|done|omega)) [l19_15,r19_3,r19_4,r19_5,r19_6,hlt',g1,wrap_id]
    exact fin
   ·simp (disch := first|omega|(simp only [zS];first|done|omega)) [l19_15,r19_3,r19_4,r19_5,r19_6,hlt',g1,wrap_id]
    exact fin
   ·simp (disch := first|omega|(simp only [zS];first|done|omega)) [l19_15,r19_3,r19_4,r19_5,r19_6,hlt',g1,wrap_id]
    exact fin
  have k1' : Go.Rn.blank c = false := by simpa using k1
  have hb : ¬ c = 32 ∧ ¬ c = 9 ∧ ¬ c = 13 := by simpa [Go.Rn.blank,and_assoc] using k1'
  obtain ⟨b1,b2,b3⟩ := hb
  by_cases k2 : c = 35
  ·subst k2
   rw [lex_hash] at hq
   simp (disch := first|omega|(simp only [zS];first|done|omega)) [l19_15,r19_3,r19_4,r19_5,r19_7,r19_8,hlt',g1,hnp]
   refine Ans.of ⟨hk,?_⟩
   rw [hq]
   simp only [Option.map_some,List.append_nil]
   exact ⟨hB,by omega⟩
  by_cases k3 : c = 59
  ·subst k3
   rw [lex_semi] at hq
   obtain ⟨v',g',a1,a2,a3,a4⟩ := bld_put1 hB (bytes := 32) (tokC .semi) (x := Tok.semi) rfl (by omega) (by have := hk.1;omega) (fun _ _ _ _ _ _ q => q) (fun _ _ => rfl)
   simp only [tokC,kindOf,textOf,numOf] at a1
   have hsz := a3.1
   simp (disch := first|omega|(simp only [zS];first|done|omega)) [l19_15,r19_3,r19_4,r19_5,r19_7,r19_9,r19_10,r19_11,hlt',g1,a1,srcOf,isText,lit_nil,wrap_id]
   refine hag (l.length - (i + 1)) _ _ (by omega) ⟨i + 1,v',acc ++ [.semi],by omega,rfl,kept_of hk hsz (fun b hb => a4 b (by have := hk.1;omega) (by omega)),by simp,a2,by simp;omega,?_⟩
   rw [hq];simp [Option.map_map,Function.comp_def]
  ·have hd' : l.drop i ≠ [] := by rw [hd];simp
   have e1 := one_spec (p := p) (F := F) (h := g) (l.drop i) hd' (by simp;omega) (by simp;omega)
   have g2 : cutS (ofB l) i l.length g = some (vs (l.drop i),g) := by
    rw [cutS_ofB (by omega) (Nat.le_refl _),List.take_of_length_le (by simp)]
   rw [lex_one k1' k2 k3,← hd] at hq
   simp (disch := first|omega|(simp only [zS];first|done|omega)) [l19_15,r19_3,r19_4,r19_5,r19_7,r19_9,r19_12,hlt',g1,b1,b2,b3,k2,k3,pcS_eq,g2]
   refine Ans.nextC e1 ?_
   rintro w g' ⟨q1,rfl⟩
   have hB' := hB.kept q1 (by simp) fun cs x _ q => q
   have hk' := hk.trans q1
   cases ho : Go.Rn.one (l.drop i) with
   | none =>
    rw [ho] at hq
    simp (disch := first|omega|(simp only [zS];first|done|omega)) [tokV]
    refine Ans.of ⟨hk',?_⟩
    rw [hq];rfl
   | some z =>
    obtain ⟨t,r⟩ := z
    rw [ho] at hq
    have hlen := Go.Rn.one_len ho
    have hsuf := (Go.Rn.one_suf ho).drop
    rw [List.drop_drop] at hsuf
    simp only [List.length_drop] at hlen hsuf
    have k2 := rowKept g' (tokC t) 0 []
    have hB2 := hB'.kept k2 (by simp) fun cs x _ q => q
    obtain ⟨v',g'',a1,a2,a3,a4⟩ := bld_put1 hB2 (bytes := 32) (tokC t) (x := t) rfl (by omega) (by have := hk'.1;simp;omega) (fun _ _ _ _ _ _ q => q) (fun _ _ => rfl)
    have hsz := a3.1
    have hpos : (((l.length - i : Nat) : Int) - (r.length : Int)) = ((l.length - i - r.length : Nat) : Int) := by omega
    simp only [tokC] at a1
    simp (disch := first|omega|(simp only [zS];first|done|omega)) [tokV,tokC,List.getElem?_cons_zero,List.getElem?_cons_succ,r19_13,r19_14,srcOf,isText,a1,hpos,wrap_id]
    refine hag (l.length - (i + (l.length - i - r.length))) _ _ (by omega) ⟨i + (l.length - i - r.length),v',acc ++ [t],by omega,rfl,?_,by simp,a2,by simp;omega,?_⟩
    ·exact kept_of (hk'.trans k2) hsz fun b hb => a4 b (by have := (hk'.trans k2).1;omega) (by omega)
    ·rw [hq,hsuf];simp [Option.map_map,Function.comp_def]
 ·have : i = l.length := by omega
  subst this
  simp (disch := first|omega|(simp only [zS];first|done|omega)) [l19_15,r19_3,r19_16,hnp]
  refine Ans.of ⟨hk,?_⟩
  rw [hq,List.drop_eq_nil_iff.2 (Nat.le_refl _)]
  simp only [Go.Rn.lex,Go.Rn.lexN,Option.map_some,List.append_nil,List.length_nil]
  exact ⟨hB,by omega⟩
end Go.Proofs.YtnoghchcboiojaaGreatDoor
end
section
set_option maxRecDepth 100000
namespace Go.Proofs.YtnoghchcboiojaaGreatDoor
open Go.Ev
open Go.Rn (Bs Tok)
variable {p : Bool} {F : Nat} {h : H}
structure RdAt (h : H) (r : Nat) (v : Value) (ws : List Tok) (i : Nat) : Prop where
 cell : hget h r = some (.cells [v,vi i] 0 true [])
 wds : SlR (· ≠ r) 3 TokR h v ws
 le : i ≤ ws.length
 sm : ws.length < 4398046511104
theorem RdAt.kept {r : Nat} {v : Value} {ws : List Tok} {i : Nat} {h' : H} (a : RdAt h r v ws i) (k : Kept h h' []) : RdAt h' r v ws i :=
 ⟨(k.get (lt_of_get a.cell) (by simp)).trans a.cell,a.wds.kc k.c (by simp) (fun _ _ _ q => q),a.le,a.sm⟩
theorem take3 {cs : List Value} {q : Nat} {x y z : Value} (e : (cs.drop q).take 3 = [x,y,z]) : (cs.drop q).take 1 = [x] ∧ (cs.drop (q + 1)).take 1 = [y] ∧ (cs.drop (q + 2)).take 1 = [z] := by
 have e0 : (cs.drop q)[0]? = some x := by have := congrArg (·[0]?) e;simpa using this
 have e1 : (cs.drop q)[1]? = some y := by have := congrArg (·[1]?) e;simpa using this
 have e2 : (cs.drop q)[2]? = some z := by have := congrArg (·[2]?) e;simpa using this
 have g : ∀ {l : List Value} {v : Value},l[0]? = some v → l.take 1 = [v] := by
  intro l v hl
  cases l with
  | nil => simp at hl
  | cons a l => simp at hl;simp [hl]
 refine ⟨g e0,g ?_,g ?_⟩
 ·rw [List.getElem?_drop] at e1 ⊢;simpa using e1
 ·rw [List.getElem?_drop] at e2 ⊢;simpa using e2
theorem RdAt.word {r : Nat} {v : Value} {ws : List Tok} {i : Nat} (a : RdAt h r v ws i) {j : Nat} {t : Tok} (ht : ws[j]? = some t) :
  ∃ b o c cs es lv an,v = .slice (some ⟨b,o,none⟩) ws.length c ∧ b ≠ r ∧ hget h b = some (.cells cs es lv an) ∧ o + j * 3 + 3 ≤ cs.length ∧
   (cs.drop (o + j * 3)).take 3 = tokC t ∧ (cs.drop (o + j * 3)).take 1 = [vi (kindOf t)] ∧ (cs.drop (o + j * 3 + 1)).take 1 = [vs (textOf t)] ∧ (cs.drop (o + j * 3 + 2)).take 1 = [vi (numOf t)] := by
 obtain ⟨b,o,c,cs,es,lv,an,e,hk,hg,hl,hr⟩ := a.wds.at' ht
 have := take3 (show (cs.drop (o + j * 3)).take 3 = [vi (kindOf t),vs (textOf t),vi (numOf t)] from hr)
 exact ⟨b,o,c,cs,es,lv,an,e,hk,hg,hl,hr,this.1,this.2.1,this.2.2⟩
def NextQ (r : Nat) (v : Value) (ws : List Tok) (i : Nat) (kd : Int) (h : H) (w : Value) (h' : H) : Prop := Kept h h' [r] ∧
  ((∃ t,ws[i]? = some t ∧ kindOf t = kd ∧ w = .agg ⟨tokC t⟩ ∧ RdAt h' r v ws (i + 1)) ∨ ((∀ t,ws[i]? = some t → kindOf t ≠ kd) ∧ w = off))
theorem next_spec (kd : Int) {r : Nat} {v : Value} {ws : List Tok} {i : Nat} (a : RdAt h r v ws i) (hF : 2 < F) : Ans (cf p (F + 2) 40 [.pointer (some ⟨r,0,none⟩),vi kd] h) fun w h' => NextQ r v ws i kd h w h' := by
 rw [cf_step (a := a40) rfl rfl (by simp [a40])]
 have hc := a.cell
 have hrs := lt_of_get hc
 have hlen := a.wds.len
 have hle := a.le
 have hsm := a.sm
 have hv1 := a.wds.one
 have e1 := fun g => fail_eq (p := p) (F := F) (h := g)
 have kb := rowKept h [vi 0,vs [],vi 0] 0 []
 have hb0 : hget (Ev.newRow h [vi 0,vs [],vi 0] 0 []) h.size = some (.cells [vi 0,vs [],vi 0] 0 true []) := by simp
 have hs0 : h.size < (Ev.newRow h [vi 0,vs [],vi 0] 0 []).size := by simp
 have hc' := (kb.get hrs (by simp)).trans hc
 have hs1 := lt_of_get hc'
 have a' := a.kept kb
 simp (disch := first|omega|(simp only [zS];first|done|omega)) [a40,r40_0,lit_nil]
 generalize hgg : Ev.newRow h [vi 0,vs [],vi 0] 0 [] = g at *
 cases ht : ws[i]? with
 | none =>
  have hge : (ws.length : Int) ≤ i := by have := List.getElem?_eq_none_iff.1 ht;omega
  simp (disch := first|omega|(simp only [zS];first|done|omega)) [d40_1,r40_2,hc',hlen,hge,e1]
  exact Ans.of ⟨kb.of_nil,.inr ⟨fun t e => (by rw [ht] at e;cases e),rfl⟩⟩
 | some t =>
  have hlt := (List.getElem?_eq_some_iff.1 ht).1
  have hge : ¬ ((ws.length : Int) ≤ i) := by omega
  obtain ⟨b,o,c,cs,es,lv,an,rfl,hbr,hg,hl,t3,t0,t1,t2⟩ := a'.word ht
  have hl1 : o + i * 3 + 1 ≤ cs.length := by omega
  have hbs := lt_of_get hg
  have hi1 : (i : Int) < ws.length := by omega
  by_cases hk : kindOf t = kd
  ·subst hk
   simp (disch := first|omega|(simp only [zS];first|done|omega)) [d40_1,r40_3,d40_4,hc',hge,e1,hg,hl,hl1,t0,t3,hi1,neF,wrap_id,tokC,hb0]
   have hK : ∀ g',g'.size = g.size → (∀ c,c < h.size → ¬ r = c → hget g' c = hget g c) → Kept h g' [r] := fun g' h1 h2 => ⟨by have := kb.1;omega,fun c hc hn => by
    have hcr : ¬ r = c := fun e => hn (by simp [e])
    rw [h2 c hc hcr];exact kb.get hc (by simp)⟩
   refine Ans.of ⟨hK _ (by simp) ?_,.inl ⟨t,ht,rfl,rfl,?_,a.wds.kc (hK _ (by simp) ?_).c (by simp) (fun _ _ _ q => q),by omega,hsm⟩⟩
   ·intro c hc hn;simp (disch := first|omega|(simp only [zS];first|done|omega)) [hn]
   ·simp (disch := first|omega|(simp only [zS];first|done|omega)) []
   ·intro c hc hn;simp (disch := first|omega|(simp only [zS];first|done|omega)) [hn]
  ·simp (disch := first|omega|(simp only [zS];first|done|omega)) [d40_1,r40_2,hc',hge,e1,hg,hl1,t0,hi1,neT,hk]
   exact Ans.of ⟨kb.of_nil,.inr ⟨fun t' e => (by rw [ht] at e;cases e;exact hk),rfl⟩⟩
def IsQ (r : Nat) (v : Value) (ws : List Tok) (i : Nat) (nm : Bs) (h : H) (w : Value) (h' : H) : Prop := Kept h h' [r] ∧
  ((ws[i]? = some (.name nm) ∧ w = .bool true ∧ RdAt h' r v ws (i + 1)) ∨ (¬ ws[i]? = some (.name nm) ∧ w = .bool false ∧ RdAt h' r v ws i))
theorem kind_name {t : Tok} (h : kindOf t = 1) : t = .name (textOf t) := by
 cases t <;> simp [kindOf,textOf] at h ⊢
theorem is_spec (nm : Bs) {r : Nat} {v : Value} {ws : List Tok} {i : Nat} (a : RdAt h r v ws i) : Ans (cf p (F + 1) 39 [.pointer (some ⟨r,0,none⟩),vs nm] h) fun w h' => IsQ r v ws i nm h w h' := by
 rw [cf_step (a := a39) rfl rfl (by simp [a39])]
 have hc := a.cell
 have hrs := lt_of_get hc
 have hlen := a.wds.len
 have hle := a.le
 have hsm := a.sm
 simp (disch := first|omega|(simp only [zS];first|done|omega)) [a39,r39_0]
 cases ht : ws[i]? with
 | none =>
  have hge : ¬ ((i : Int) < ws.length) := by have := List.getElem?_eq_none_iff.1 ht;omega
  simp (disch := first|omega|(simp only [zS];first|done|omega)) [d39_1,r39_4,hc,hlen,hge]
  exact Ans.of ⟨Kept.refl _ _,.inr ⟨fun e => (by rw [ht] at e;cases e),rfl,a⟩⟩
 | some t =>
  have hlt := (List.getElem?_eq_some_iff.1 ht).1
  have hi1 : (i : Int) < ws.length := by omega
  obtain ⟨b,o,c,cs,es,lv,an,rfl,hbr,hg,hl,t3,t0,t1,t2⟩ := a.word ht
  have hl1 : o + i * 3 + 1 ≤ cs.length := by omega
  have hl2 : o + i * 3 + 1 + 1 ≤ cs.length := by omega
  have hl2' : o + i * 3 + 2 ≤ cs.length := by omega
  by_cases hk : kindOf t = 1
  ·have htn := kind_name hk
   by_cases hn : textOf t = nm
   ·subst hn
    simp (disch := first|omega|(simp only [zS];first|done|omega)) [d39_1,r39_2,r39_3,hc,hg,hl1,hl2,hl2',t0,t1,hi1,eqT,hk,ofB_beq,wrap_id]
    have hK : Kept h (h.setIfInBounds r (.cells [.slice (some ⟨b,o,none⟩) ws.length c,vi (↑i + 1)] 0 true [])) [r] := ⟨by simp,fun c hc hn => by
     have hcr : ¬ r = c := fun e => hn (by simp [e])
     simp (disch := first|omega|(simp only [zS];first|done|omega)) [hcr]⟩
    exact Ans.of ⟨hK,.inl ⟨by rw [ht,← htn],rfl,by simp (disch := first|omega|(simp only [zS];first|done|omega)) [],a.wds.kc hK.c (by simp) (fun _ _ _ q => q),by omega,hsm⟩⟩
   ·have hn' : ¬ textOf t = nm := hn
    simp (disch := first|omega|(simp only [zS];first|done|omega)) [d39_1,r39_4,hc,hg,hl1,hl2,hl2',t0,t1,hi1,eqT,hk,ofB_beq,hn]
    exact Ans.of ⟨Kept.refl _ _,.inr ⟨fun e => (by rw [ht] at e;cases e;exact hn rfl),rfl,a⟩⟩
  ·simp (disch := first|omega|(simp only [zS];first|done|omega)) [d39_1,r39_4,hc,hg,hl1,t0,hi1,eqF,hk]
   exact Ans.of ⟨Kept.refl _ _,.inr ⟨fun e => (by rw [ht] at e;cases e;exact hk rfl),rfl,a⟩⟩
theorem short_eq (r : Value) (l : Bs) : cf p (F + 2) 77 [r,vs l] h = some (if l.length ≤ 256 then vs l else off,h) := by
 rw [cf_step (a := a77) rfl rfl (by simp [a77])]
 have e1 := fail_eq (p := p) (F := F) (h := h)
 by_cases k : l.length ≤ 256
 ·have k' : ¬ ((256 : Int) < l.length) := by omega
  simp [a77,r77_0,r77_1,r77_3,k',k]
 ·have k' : (256 : Int) < l.length := by omega
  simp [a77,r77_0,r77_1,r77_2,k',k,e1]
end Go.Proofs.YtnoghchcboiojaaGreatDoor
end
section
set_option maxRecDepth 100000
namespace Go.Proofs.YtnoghchcboiojaaGreatDoor
open Go.Ev
open Go.Rn (Bs Tok pText pNum pKind w_node w_kids w_subtree)
variable {p : Bool} {F : Nat} {h : H}
structure Glo (h : H) : Prop where
 watches : hget h 1 = some (.cells [vs [],vs w_node,vs w_kids,vs w_subtree] 0 false [])
 maxl : ∃ m,hget h 4 = some (.cells [vi m] 0 false [])
theorem Glo.kept {h' : H} {r : Nat} (g : Glo h) (k : Kept h h' [r]) (hr : 14 ≤ r) : Glo h' :=
 ⟨(k.get (lt_of_get g.watches) (by simp;omega)).trans g.watches,let ⟨m,e⟩ := g.maxl;⟨m,(k.get (lt_of_get e) (by simp;omega)).trans e⟩⟩
theorem Glo.kept0 {h' : H} (g : Glo h) (k : Kept h h' []) : Glo h' := ⟨(k.get (lt_of_get g.watches) (by simp)).trans g.watches,let ⟨m,e⟩ := g.maxl;⟨m,(k.get (lt_of_get e) (by simp)).trans e⟩⟩
theorem drop_at {α : Type} {l : List α} {i : Nat} {c : α} (hc : l[i]? = some c) : l.drop i = c :: l.drop (i + 1) := by
 have hi := (List.getElem?_eq_some_iff.1 hc).1
 rw [List.drop_eq_getElem_cons hi]
 congr 1
 exact (List.getElem?_eq_some_iff.1 hc).2
theorem drop_none {α : Type} {l : List α} {i : Nat} (hc : l[i]? = none) : l.drop i = [] := List.drop_eq_nil_iff.2 (List.getElem?_eq_none_iff.1 hc)
def PcQ {α : Type} (res : Option (α × List Tok)) (val : α → Value) (r : Nat) (v : Value) (ws : List Tok) (i : Nat) (h : H) (w : Value) (h' : H) : Prop := Kept h h' [r] ∧
  ((∃ x i',res = some (x,ws.drop i') ∧ i ≤ i' ∧ w = val x ∧ RdAt h' r v ws i') ∨ (res = none ∧ w = off))
theorem kind_num {t : Tok} (h : kindOf t = 2) : ∃ n,t = .num n := by
 cases t <;> simp [kindOf] at h ⊢
theorem kind_place {t : Tok} (h : kindOf t = 3) : ∃ s,t = .place s := by
 cases t <;> simp [kindOf] at h ⊢
theorem kind_quoted {t : Tok} (h : kindOf t = 4) : ∃ s,t = .quoted s := by
 cases t <;> simp [kindOf] at h ⊢
theorem kind_semi {t : Tok} (h : kindOf t = 5) : t = .semi := by
 cases t <;> simp [kindOf] at h ⊢
theorem tokC_quoted (s : Bs) : tokC (.quoted s) = [vi 4,vs s,vi 0] := rfl
theorem tokC_place (s : Bs) : tokC (.place s) = [vi 3,vs s,vi 0] := rfl
theorem tokC_name (s : Bs) : tokC (.name s) = [vi 1,vs s,vi 0] := rfl
theorem tokC_num (n : Int) : tokC (.num n) = [vi 2,vs [],vi n] := rfl
theorem num_of {r : Nat} {v : Value} {ws : List Tok} {i : Nat} {w : Value} {h' : H} (q : NextQ r v ws i 2 h w h') :
  (∃ n,w = .agg ⟨[vi 2,vs [],vi n]⟩ ∧ pNum (ws.drop i) = some (n,ws.drop (i + 1)) ∧ RdAt h' r v ws (i + 1)) ∨ (w = off ∧ pNum (ws.drop i) = none) := by
 obtain ⟨_,⟨t,h1,h2,h3,h4⟩ | ⟨h1,h2⟩⟩ := q
 ·obtain ⟨n,rfl⟩ := kind_num h2
  exact .inl ⟨n,h3,by rw [drop_at h1];rfl,h4⟩
 ·refine .inr ⟨h2,?_⟩
  cases ht : ws[i]? with
  | none => rw [drop_none ht];rfl
  | some t =>
   rw [drop_at ht]
   have := h1 t ht
   cases t <;> first
    | rfl
    | (simp [kindOf] at this)
theorem name_of {r : Nat} {v : Value} {ws : List Tok} {i : Nat} {w : Value} {h' : H} (q : NextQ r v ws i 1 h w h') :
  (∃ s,w = .agg ⟨[vi 1,vs s,vi 0]⟩ ∧ ws.drop i = .name s :: ws.drop (i + 1) ∧ RdAt h' r v ws (i + 1)) ∨ (w = off ∧ ∀ s t,ws.drop i ≠ .name s :: t) := by
 obtain ⟨_,⟨t,h1,h2,h3,h4⟩ | ⟨h1,h2⟩⟩ := q
 ·have := kind_name h2
  generalize textOf t = s at this
  subst this
  exact .inl ⟨s,h3,drop_at h1,h4⟩
 ·refine .inr ⟨h2,fun s u e => ?_⟩
  cases ht : ws[i]? with
  | none => rw [drop_none ht] at e;cases e
  | some t =>
   rw [drop_at ht] at e
   injection e with e1
   exact h1 t ht (by rw [e1];rfl)
theorem text_spec (bare : Bool) {r : Nat} {v : Value} {ws : List Tok} {i : Nat} (a : RdAt h r v ws i) (hF : 2 < F) : Ans (cf p (F + 3) 43 [.pointer (some ⟨r,0,none⟩),.bool bare] h) fun w h' => PcQ (pText bare (ws.drop i)) vs r v ws i h w h' := by
 rw [cf_step (a := a43) rfl rfl (by simp [a43])]
 have hc := a.cell
 have hrs := lt_of_get hc
 have hlen := a.wds.len
 have hle := a.le
 have hsm := a.sm
 have e3 := next_spec (p := p) (F := F) 3 a hF
 have e4 := next_spec (p := p) (F := F) 4 a hF
 have e5 := fun g r l => short_eq (p := p) (F := F) (h := g) r l
 simp (disch := first|omega|(simp only [zS];first|done|omega)) [a43,r43_0]
 have quo : Ans (evR (cxOf (cf p (F + 2)) (cfX XD) [ARes.tmp 4]) r43_3 [(0,.pointer (some ⟨r,0,none⟩)),(31,.bool false)] h (evC (F + 2) (cxOf (cf p (F + 2)) (cfX XD) [ARes.tmp 4]) ACode.ret (endK (cfX XD) [ARes.tmp 4]) noK (endK (cfX XD) [ARes.tmp 4])) [4] [])
   fun w h' => (∀ t,ws[i]? = some t → kindOf t = 3 → bare = true → False) → PcQ (pText bare (ws.drop i)) vs r v ws i h w h' := by
  simp (disch := first|omega|(simp only [zS];first|done|omega)) [r43_3]
  refine Ans.nextC e4 ?_
  rintro w g ⟨k1,⟨t,h1,h2,rfl,h4⟩ | ⟨h1,rfl⟩⟩
  ·obtain ⟨s,rfl⟩ := kind_quoted h2
   by_cases hl : s.length ≤ 256
   ·simp (disch := first|omega|(simp only [zS];first|done|omega)) [tokC_quoted,List.getElem?_cons_zero,List.getElem?_cons_succ,e5,hl]
    refine Ans.of fun _ => ⟨k1,.inl ⟨s,i + 1,?_,by omega,rfl,h4⟩⟩
    rw [drop_at h1];simp [pText,hl]
   ·simp (disch := first|omega|(simp only [zS];first|done|omega)) [tokC_quoted,List.getElem?_cons_zero,List.getElem?_cons_succ,e5,hl]
    refine Ans.of fun _ => ⟨k1,.inr ⟨?_,rfl⟩⟩
    rw [drop_at h1];simp [pText]
    omega
  ·simp (disch := first|omega|(simp only [zS];first|done|omega)) []
   refine Ans.of fun hnp => ⟨k1,.inr ⟨?_,rfl⟩⟩
   cases ht : ws[i]? with
   | none => rw [drop_none ht];rfl
   | some t =>
    rw [drop_at ht]
    have q1 := h1 t ht
    have q2 := hnp t ht
    cases t <;> first
     | rfl
     | (simp [kindOf] at q1;done)
     | (simp [kindOf] at q2;simp [pText,q2])
 cases bare with
 | false =>
  simp (disch := first|omega|(simp only [zS];first|done|omega)) [d43_1]
  exact quo.mono fun w h' q => q fun _ _ _ e => by cases e
 | true =>
  cases ht : ws[i]? with
  | none =>
   have hge : ¬ ((i : Int) < ws.length) := by have := List.getElem?_eq_none_iff.1 ht;omega
   simp (disch := first|omega|(simp only [zS];first|done|omega)) [d43_1,hc,hlen,hge]
   exact quo.mono fun w h' q => q fun t e _ _ => by rw [ht] at e;cases e
  | some t =>
   have hlt := (List.getElem?_eq_some_iff.1 ht).1
   have hi1 : (i : Int) < ws.length := by omega
   obtain ⟨b,o,c,cs,es,lv,an,rfl,hbr,hg,hl,t3,t0,t1,t2⟩ := a.word ht
   have hl1 : o + i * 3 + 1 ≤ cs.length := by omega
   by_cases hk : kindOf t = 3
   ·simp (disch := first|omega|(simp only [zS];first|done|omega)) [d43_1,hc,hg,hl1,t0,hi1,eqT,hk,r43_2]
    refine Ans.nextC e3 ?_
    rintro w g ⟨k1,⟨t',h1,h2,rfl,h4⟩ | ⟨h1,rfl⟩⟩
    ·obtain ⟨s,rfl⟩ := kind_place h2
     by_cases hl : s.length ≤ 256
     ·simp (disch := first|omega|(simp only [zS];first|done|omega)) [tokC_place,List.getElem?_cons_zero,List.getElem?_cons_succ,e5,hl]
      refine Ans.of ⟨k1,.inl ⟨s,i + 1,?_,by omega,rfl,h4⟩⟩
      rw [drop_at h1];simp [pText,hl]
     ·simp (disch := first|omega|(simp only [zS];first|done|omega)) [tokC_place,List.getElem?_cons_zero,List.getElem?_cons_succ,e5,hl]
      refine Ans.of ⟨k1,.inr ⟨?_,rfl⟩⟩
      rw [drop_at h1];simp [pText]
      omega
    ·exact absurd hk (h1 t ht)
   ·simp (disch := first|omega|(simp only [zS];first|done|omega)) [d43_1,hc,hg,hl1,t0,hi1,eqF,hk]
    exact quo.mono fun w h' q => q fun t' e q _ => by rw [ht] at e;cases e;exact hk q
end Go.Proofs.YtnoghchcboiojaaGreatDoor
end
section
set_option maxRecDepth 100000
namespace Go.Proofs.YtnoghchcboiojaaGreatDoor
open Go.Ev
open Go.Rn (Bs Tok Ar OA findW stepTab opTab pKind w_node w_kids w_subtree)
variable {p : Bool} {F : Nat} {h : H}
abbrev Sh := Int × Bs × Bs
def shC (s : Sh) : List Value := [vi s.1,vs s.2.1,vs s.2.2]
def ShR (_ : H) (cs : List Value) (s : Sh) : Prop := cs = shC s
def arB : Ar → UInt8
 | .a => 65
 | .b => 66
 | .c => 67
 | .p => 112
 | .k => 107
 | .o => 111
def oaB : OA → UInt8
 | .p => 112
 | .d => 100
 | .v => 118
 | .f => 102
def shL {α : Type} (f : α → UInt8) (k : Nat) : List (Bs × List α) → List Sh
 | [] => []
 | (w,q) :: l => ((k : Int),w,q.map f) :: shL f (k + 1) l
theorem find_shL {α : Type} (f : α → UInt8) (w : Bs) : ∀ (l : List (Bs × List α)) (k : Nat),(shL f k l).find? (fun s => decide (s.2.1 = w)) = (findW w k l).map fun q => ((q.1 : Int),w,q.2.map f)
 | [],k => rfl
 | (n,q) :: l,k => by
  simp only [shL,findW,List.find?_cons]
  by_cases e : n = w
  ·subst e;simp
  ·simp only [decide_eq_false e,if_neg e]
   exact find_shL f w l (k + 1)
theorem kind_shL {α : Type} (f : α → UInt8) (z : Int) : ∀ (l : List (Bs × List α)) (k : Nat),(shL f k l).find? (fun s => decide (s.1 = z)) = if (k : Int) ≤ z then (l[(z - k).toNat]?).map fun q => (z,q.1,q.2.map f) else none
 | [],k => by simp [shL]
 | (n,q) :: l,k => by
  simp only [shL,List.find?_cons]
  by_cases e : (k : Int) = z
  ·subst e;simp
  ·simp only [decide_eq_false e]
   rw [kind_shL f z l (k + 1)]
   by_cases h1 : (k : Int) ≤ z
   ·rw [if_pos h1,if_pos (by omega)]
    have : (z - (k : Int)).toNat = (z - ((k + 1 : Nat) : Int)).toNat + 1 := by omega
    rw [this,List.getElem?_cons_succ]
   ·rw [if_neg h1,if_neg (by omega)]
def stepSh : List Sh := shL arB 1 stepTab
def opSh : List Sh := shL oaB 1 opTab
theorem flat_at {α : Type} (f : α → List Value) (w : Nat) (hf : ∀ x,(f x).length = w) : ∀ (l : List α) (i : Nat) (x : α),l[i]? = some x → i * w + w ≤ (l.map f).flatten.length ∧ (((l.map f).flatten.drop (i * w)).take w) = f x
 | [],i,x,h => by simp at h
 | a :: l,0,x,h => by
  simp at h;subst h
  simp only [List.map_cons,List.flatten_cons,Nat.zero_mul,List.drop_zero,List.length_append,hf]
  exact ⟨by omega,by rw [← hf a,List.take_left]⟩
 | a :: l,i + 1,x,h => by
  have ih := flat_at f w hf l i x (by simpa using h)
  simp only [List.map_cons,List.flatten_cons,List.length_append,hf]
  have e : (i + 1) * w = w + i * w := by rw [Nat.add_mul];omega
  refine ⟨by omega,?_⟩
  rw [e,← List.drop_drop]
  have : (f a ++ (l.map f).flatten).drop w = (l.map f).flatten := by rw [← hf a,List.drop_left]
  rw [this]
  exact ih.2
theorem shapes_row (h : H) (l : List Sh) (n : Nat) (hn : l.length = n) : SlR (· = h.size) 3 ShR (Ev.newRow h (l.map shC).flatten 3 []) (.slice (some ⟨h.size,0,none⟩) n n) l := by
 subst hn
 refine .inr ⟨h.size,0,l.length,(l.map shC).flatten,rfl,Nat.le_refl _,rfl,cel_of (es := 3) (lv := true) (an := []) (by simp),fun i x hx => ?_⟩
 have := flat_at shC 3 (fun _ => rfl) l i x hx
 rw [Nat.zero_add]
 exact this
theorem shapes_spec : Ans (cf p (F + 1) 42 [] h) fun v h' => h' = Ev.newRow h (stepSh.map shC).flatten 3 [] ∧ v = .slice (some ⟨h.size,0,none⟩) 16 16 := by
 rw [cf_step (a := a42) rfl rfl (by simp [a42])]
 simp [a42,r42_0,r42_1]
 exact Ans.of ⟨rfl,rfl⟩
theorem opShapes_spec : Ans (cf p (F + 1) 107 [] h) fun v h' => h' = Ev.newRow h (opSh.map shC).flatten 3 [] ∧ v = .slice (some ⟨h.size,0,none⟩) 7 7 := by
 rw [cf_step (a := a107) rfl rfl (by simp [a107])]
 simp [a107,r107_0,r107_1]
 exact Ans.of ⟨rfl,rfl⟩
end Go.Proofs.YtnoghchcboiojaaGreatDoor
end
section
set_option maxRecDepth 100000
namespace Go.Proofs.YtnoghchcboiojaaGreatDoor
open Go.Ev
open Go.Rn (Bs Tok Ar OA findW stepTab opTab pKind w_node w_kids w_subtree)
variable {p : Bool} {F : Nat} {h : H}
def shV : Option Sh → Value
 | some s => .agg ⟨shC s⟩
 | none => off
theorem find_spec {ok : Nat → Prop} {v : Value} {l : List Sh} (w : Bs) (hs : SlR ok 3 ShR h v l) (hF : l.length < F) (hl : l.length < 4398046511104) : Ans (cf p (F + 2) 41 [v,vs w] h) fun x h' => Kept h h' [] ∧ x = shV (l.find? fun s => decide (s.2.1 = w)) := by
 rw [cf_step (a := a41) rfl rfl (by simp [a41])]
 have hlen := hs.len
 have e1 := fun g => fail_eq (p := p) (F := F) (h := g)
 have kb := rowKept h [vi 0,vs [],vs []] 0 []
 have hb0 : hget (Ev.newRow h [vi 0,vs [],vs []] 0 []) h.size = some (.cells [vi 0,vs [],vs []] 0 true []) := by simp
 have hs0 : h.size < (Ev.newRow h [vi 0,vs [],vs []] 0 []).size := by simp
 simp (disch := first|omega|(simp only [zS];first|done|omega)) [a41,r41_0,r41_1,lit_nil,hlen]
 refine loop_rule (fun m s g => ∃ i : Nat,i ≤ l.length ∧ m = l.length - i ∧ Kept h g [] ∧ h.size < g.size ∧ hget g h.size = some (.cells [vi 0,vs [],vs []] 0 true []) ∧
   s = [(1,vs w),(4,.pointer (some ⟨h.size,0,none⟩)),(7,v),(8,vi l.length),(9,vi i)] ∧ l.find? (fun s => decide (s.2.1 = w)) = (l.drop i).find? fun s => decide (s.2.1 = w))
  ?_ (F + 1) (l.length - 0) _ _ (by omega) ⟨0,by omega,rfl,kb,hs0,hb0,rfl,by simp⟩
 rintro m s g again ⟨i,hi,rfl,hk,hsz,hb,rfl,hq⟩ hag
 by_cases hlt : i < l.length
 ·obtain ⟨x,hx⟩ : ∃ x,l[i]? = some x := ⟨_,List.getElem?_eq_getElem hlt⟩
  have hs2 := hs.kc hk.c (by simp) (fun _ _ _ q => q)
  obtain ⟨b,o,c,cs,es,lv,an,rfl,hok,hg,hle,hr⟩ := hs2.at' hx
  have t3 : (cs.drop (o + i * 3)).take 3 = shC x := hr
  have hlt' : (i : Int) < l.length := by omega
  rw [drop_at hx,List.find?_cons] at hq
  have k2 := rowKept g (shC x) 0 []
  have hb2 := (k2.get hsz (by simp)).trans hb
  have hb3 : hget (Ev.newRow g (shC x) 0 []) g.size = some (.cells (shC x) 0 true []) := by simp
  by_cases e : x.2.1 = w
  ·simp only [decide_eq_true e] at hq
   simp (disch := first|omega|(simp only [zS];first|done|omega)) [l41_7,r41_2,r41_3,r41_4,r41_5,hlt',hg,hle,t3,shC,e,ofB_beq,hb]
   refine Ans.of ⟨kept_set (hk.trans (rowKept _ _ _ _)) (Nat.le_refl _),?_⟩
   rw [hq];simp [shV,shC,e]
  ·simp only [decide_eq_false e] at hq
   simp (disch := first|omega|(simp only [zS];first|done|omega)) [l41_7,r41_2,r41_3,r41_4,r41_6,hlt',hg,hle,t3,shC,e,ofB_beq,wrap_id]
   exact hag _ _ _ (by omega) ⟨i + 1,by omega,rfl,hk.trans k2,by simp;omega,by simpa [shC] using hb2,by simp,hq⟩
 ·have : i = l.length := by omega
  subst this
  simp (disch := first|omega|(simp only [zS];first|done|omega)) [l41_7,r41_2,r41_8,e1]
  refine Ans.of ⟨hk,?_⟩
  rw [hq,List.drop_eq_nil_iff.2 (Nat.le_refl _)]
  rfl
theorem shapeOf_spec {ok : Nat → Prop} {v : Value} {l : List Sh} (z : Int) (hs : SlR ok 3 ShR h v l) (hF : l.length < F) (hl : l.length < 4398046511104) : Ans (cf p (F + 2) 61 [v,vi z] h) fun x h' => Kept h h' [] ∧ x = shV (l.find? fun s => decide (s.1 = z)) := by
 rw [cf_step (a := a61) rfl rfl (by simp [a61])]
 have hlen := hs.len
 have e1 := fun g => fail_eq (p := p) (F := F) (h := g)
 have kb := rowKept h [vi 0,vs [],vs []] 0 []
 have hb0 : hget (Ev.newRow h [vi 0,vs [],vs []] 0 []) h.size = some (.cells [vi 0,vs [],vs []] 0 true []) := by simp
 have hs0 : h.size < (Ev.newRow h [vi 0,vs [],vs []] 0 []).size := by simp
 simp (disch := first|omega|(simp only [zS];first|done|omega)) [a61,r61_0,r61_1,lit_nil,hlen]
 refine loop_rule (fun m s g => ∃ i : Nat,i ≤ l.length ∧ m = l.length - i ∧ Kept h g [] ∧ h.size < g.size ∧ hget g h.size = some (.cells [vi 0,vs [],vs []] 0 true []) ∧
   s = [(1,vi z),(4,.pointer (some ⟨h.size,0,none⟩)),(7,v),(8,vi l.length),(9,vi i)] ∧ l.find? (fun s => decide (s.1 = z)) = (l.drop i).find? fun s => decide (s.1 = z))
  ?_ (F + 1) (l.length - 0) _ _ (by omega) ⟨0,by omega,rfl,kb,hs0,hb0,rfl,by simp⟩
 rintro m s g again ⟨i,hi,rfl,hk,hsz,hb,rfl,hq⟩ hag
 by_cases hlt : i < l.length
 ·obtain ⟨x,hx⟩ : ∃ x,l[i]? = some x := ⟨_,List.getElem?_eq_getElem hlt⟩
  have hs2 := hs.kc hk.c (by simp) (fun _ _ _ q => q)
  obtain ⟨b,o,c,cs,es,lv,an,rfl,hok,hg,hle,hr⟩ := hs2.at' hx
  have t3 : (cs.drop (o + i * 3)).take 3 = shC x := hr
  have hlt' : (i : Int) < l.length := by omega
  rw [drop_at hx,List.find?_cons] at hq
  have k2 := rowKept g (shC x) 0 []
  have hb2 := (k2.get hsz (by simp)).trans hb
  by_cases e : x.1 = z
  ·simp only [decide_eq_true e] at hq
   simp (disch := first|omega|(simp only [zS];first|done|omega)) [l61_7,r61_2,r61_3,r61_4,r61_5,hlt',hg,hle,t3,shC,e,eqT,hb]
   refine Ans.of ⟨kept_set (hk.trans (rowKept _ _ _ _)) (Nat.le_refl _),?_⟩
   rw [hq];simp [shV,shC,e]
  ·simp only [decide_eq_false e] at hq
   simp (disch := first|omega|(simp only [zS];first|done|omega)) [l61_7,r61_2,r61_3,r61_4,r61_6,hlt',hg,hle,t3,shC,e,eqF,wrap_id]
   exact hag _ _ _ (by omega) ⟨i + 1,by omega,rfl,hk.trans k2,by simp;omega,by simpa [shC] using hb2,by simp,hq⟩
 ·have : i = l.length := by omega
  subst this
  simp (disch := first|omega|(simp only [zS];first|done|omega)) [l61_7,r61_2,r61_8,e1]
  refine Ans.of ⟨hk,?_⟩
  rw [hq,List.drop_eq_nil_iff.2 (Nat.le_refl _)]
  rfl
theorem watch_spec {r : Nat} {v : Value} {ws : List Tok} {i : Nat} (hg : Glo h) (hr : 14 ≤ r) (a : RdAt h r v ws i) (hF : 6 < F) : Ans (cf p (F + 3) 44 [.pointer (some ⟨r,0,none⟩)] h) fun w h' => PcQ (pKind (ws.drop i)) vi r v ws i h w h' := by
 rw [cf_step (a := a44) rfl rfl (by simp [a44])]
 have e1 := next_spec (p := p) (F := F) 1 a (by omega)
 have e2 := fun g => fail_eq (p := p) (F := F + 1) (h := g)
 simp (disch := first|omega|(simp only [zS];first|done|omega)) [a44,r44_0,r44_1]
 refine Ans.nextC e1 ?_
 rintro w g q
 have k1 := q.1
 rcases name_of q with ⟨s,rfl,h1,h2⟩ | ⟨rfl,h1⟩
 ·have hg2 := (hg.kept k1 hr).watches
  have k2 := rowKept g [vi 1,vs s,vi 0] 0 []
  have hgs := lt_of_get hg2
  have hg3 := (k2.get hgs (by simp)).trans hg2
  have hb : hget (Ev.newRow g [vi 1,vs s,vi 0] 0 []) g.size = some (.cells [vi 1,vs s,vi 0] 0 true []) := by simp
  have hsz : g.size < (Ev.newRow g [vi 1,vs s,vi 0] 0 []).size := by simp
  have hR := h2.kept k2
  have hkk := k1.trans k2.of_nil
  simp (disch := first|omega|(simp only [zS];first|done|omega)) [r44_2]
  generalize hgg : Ev.newRow g [vi 1,vs s,vi 0] 0 [] = g1 at *
  have hgs1 := lt_of_get hg3
  simp (disch := first|omega|(simp only [zS];first|done|omega)) [hg3,gN]
  rw [h1]
  obtain ⟨F,rfl⟩ : ∃ F',F = F' + 6 := ⟨F - 6,by omega⟩
  rw [loopK_succ]
  simp (disch := first|omega|(simp only [zS];first|done|omega)) [l44_8,r44_3,r44_4,r44_5,r44_7,hb,lit_nil,ofB_bne,ofB_beq,List.getElem?_cons_zero,List.getElem?_cons_succ,wrap_id]
  rw [loopK_succ]
  by_cases c1 : w_node = s
  ·subst c1
   simp (disch := first|omega|(simp only [zS];first|done|omega)) [l44_8,r44_3,r44_4,r44_5,r44_6,r44_7,hb,lit_nil,ofB_bne,ofB_beq,List.getElem?_cons_zero,List.getElem?_cons_succ,wrap_id,show ¬ w_node = [] by decide]
   refine Ans.of ⟨hkk,.inl ⟨1,i + 1,?_,by omega,rfl,hR⟩⟩
   simp [pKind]
  simp (disch := first|omega|(simp only [zS];first|done|omega)) [l44_8,r44_3,r44_4,r44_5,r44_7,hb,lit_nil,ofB_bne,ofB_beq,List.getElem?_cons_zero,List.getElem?_cons_succ,wrap_id,c1,show ¬ w_node = [] by decide]
  rw [loopK_succ]
  by_cases c2 : w_kids = s
  ·subst c2
   simp (disch := first|omega|(simp only [zS];first|done|omega)) [l44_8,r44_3,r44_4,r44_5,r44_6,r44_7,hb,lit_nil,ofB_bne,ofB_beq,List.getElem?_cons_zero,List.getElem?_cons_succ,wrap_id,show ¬ w_kids = [] by decide]
   refine Ans.of ⟨hkk,.inl ⟨2,i + 1,?_,by omega,rfl,hR⟩⟩
   simp [pKind,show ¬ w_kids = w_node by decide]
  simp (disch := first|omega|(simp only [zS];first|done|omega)) [l44_8,r44_3,r44_4,r44_5,r44_7,hb,lit_nil,ofB_bne,ofB_beq,List.getElem?_cons_zero,List.getElem?_cons_succ,wrap_id,c2,show ¬ w_kids = [] by decide]
  rw [loopK_succ]
  by_cases c3 : w_subtree = s
  ·subst c3
   simp (disch := first|omega|(simp only [zS];first|done|omega)) [l44_8,r44_3,r44_4,r44_5,r44_6,r44_7,hb,lit_nil,ofB_bne,ofB_beq,List.getElem?_cons_zero,List.getElem?_cons_succ,wrap_id,show ¬ w_subtree = [] by decide]
   refine Ans.of ⟨hkk,.inl ⟨3,i + 1,?_,by omega,rfl,hR⟩⟩
   simp [pKind,show ¬ w_subtree = w_node by decide,show ¬ w_subtree = w_kids by decide]
  simp (disch := first|omega|(simp only [zS];first|done|omega)) [l44_8,r44_3,r44_4,r44_5,r44_7,hb,lit_nil,ofB_bne,ofB_beq,List.getElem?_cons_zero,List.getElem?_cons_succ,wrap_id,c3,show ¬ w_subtree = [] by decide]
  rw [loopK_succ]
  simp (disch := first|omega|(simp only [zS];first|done|omega)) [l44_8,r44_3,r44_9,e2]
  refine Ans.of ⟨hkk,.inr ⟨?_,rfl⟩⟩
  simp [pKind,Ne.symm c1,Ne.symm c2,Ne.symm c3]
 ·simp (disch := first|omega|(simp only [zS];first|done|omega)) []
  refine Ans.of ⟨k1,.inr ⟨?_,rfl⟩⟩
  cases hd : ws.drop i with
  | nil => rfl
  | cons t l =>
   cases t <;> first
    | rfl
    | exact absurd hd (h1 _ _)
end Go.Proofs.YtnoghchcboiojaaGreatDoor
end
