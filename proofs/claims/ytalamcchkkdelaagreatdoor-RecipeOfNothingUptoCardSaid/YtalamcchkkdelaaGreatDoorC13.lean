/- Texts of the proofs over heraldlaw20, put together by a program (merge20.py): Nc0 Nd0 Nd1 Nd2 Nd3 Nd4 Nd5 Nd6 Nd7 Nd8 Nd9 Nd10 Nd11 Nd12 Nd13 Nd14 Nd15 Nd16. -/
import Derived.Test.YtalamcchkkdelaaGreatDoorC9
import Derived.Test.YtalamcchkkdelaaGreatDoorC10
import Derived.Test.YtalamcchkkdelaaGreatDoorC11
import Derived.Lib.Split
import Derived.Lib.Join
set_option linter.unusedVariables false
set_option linter.unusedSimpArgs false
section
set_option maxRecDepth 100000
namespace Go.Proofs
open Go.Ev
namespace YtalamcchkkdelaaGreatDoor
def splitL' (s sep : ByteArray) : List ByteArray := Lib.splitB sep 0 (Lib.countB s sep) s
def xSplit (args : List Value) (h : H) : Res := match args with
 | [.string s,.string sep] => match hget h 1 with
  | some (.cells (.int .i64 m :: _) _ _ _) => if s.size < 4294967281 ∧ 1 ≤ sep.size then
    some (.slice (some ⟨h.size,0,none⟩) (Lib.countB s sep + 1) (Lib.countB s sep + 1),Ev.newRow h ((splitL' s sep).map Value.string) 1 [])
   else none
  | _ => none
 | _ => none
def textsOf : List Value → Option (List ByteArray)
 | [] => some []
 | .string s :: r => (textsOf r).map fun l => s :: l
 | _ => none
def joinT (l : List ByteArray) (sep : ByteArray) : List UInt8 := Lib.join (l.map (·.data.toList)) sep.data.toList
def xJoin (args : List Value) (h : H) : Res := match args with
 | [.slice none 0 0,.string _] => some (.string ⟨#[]⟩,h)
 | [.slice (some ⟨b,o,none⟩) n c,.string sep] => if n ≤ 140737488355328 ∧ n ≤ c then match rd h b o n with
  | some l => match textsOf l with
   | some xs => if (joinT xs sep).length ≤ 140737488355328 ∧ 0 < n then some (.string ⟨(joinT xs sep).toArray⟩,h) else none
   | none => none
  | none => none
  else none
 | _ => none
def X : FuncId → Option (List Value → H → Res)
 | 60 => some xSplit
 | 102 => some xJoin
 | _ => none
def XD : FuncId → Option (List Value → H → Option Value → Option (Option Value × H)) := fun _ => none
def tbl : FuncId → Option AFn
 | 4 => some a4
 | 7 => some a7
 | 8 => some a8
 | 10 => some a10
 | 11 => some a11
 | 12 => some a12
 | 13 => some a13
 | 20 => some a20
 | 21 => some a21
 | 22 => some a22
 | 23 => some a23
 | 24 => some a24
 | 26 => some a26
 | 29 => some a29
 | 30 => some a30
 | 31 => some a31
 | 32 => some a32
 | 33 => some a33
 | 34 => some a34
 | 35 => some a35
 | 36 => some a36
 | 37 => some a37
 | 38 => some a38
 | 39 => some a39
 | 40 => some a40
 | 41 => some a41
 | 45 => some a45
 | 46 => some a46
 | 49 => some a49
 | 50 => some a50
 | 53 => some a53
 | 59 => some a59
 | 61 => some a61
 | 62 => some a62
 | 63 => some a63
 | 64 => some a64
 | 65 => some a65
 | 72 => some a72
 | 74 => some a74
 | 75 => some a75
 | 76 => some a76
 | 77 => some a77
 | 78 => some a78
 | 79 => some a79
 | 87 => some a87
 | 88 => some a88
 | 100 => some a100
 | 108 => some a108
 | 110 => some a110
 | 112 => some a112
 | 113 => some a113
 | 114 => some a114
 | 115 => some a115
 | 116 => some a116
 | 117 => some a117
 | 118 => some a118
 | 119 => some a119
 | 134 => some a134
 | 137 => some a137
 | 149 => some a149
 | 150 => some a150
 | 151 => some a151
 | 234 => some a234
 | 236 => some a236
 | _ => none
abbrev cf (F : Nat) : CF := evFn X (cfX XD) tbl F
theorem cf_step {F : Nat} {f : FuncId} {args : List Value} {h : H} {a : AFn} (hX : X f = none) (ht : tbl f = some a) (hl : args.length ≤ a.ntmps) :
  cf (F + 1) f args h = evC F (cxOf (cf F) (cfX XD) a.results) a.body (endK (cfX XD) a.results) noK (endK (cfX XD) a.results) (envOf 0 args) h [] := by
 simp only [cf,evFn,hX,ht,if_pos hl]
 rfl
theorem cf_X {F : Nat} {f : FuncId} {args : List Value} {h : H} {x : List Value → H → Res} (hX : X f = some x) : cf (F + 1) f args h = x args h := by
 simp only [cf,evFn,hX]
end YtalamcchkkdelaaGreatDoor
end Go.Proofs
end
section
set_option maxRecDepth 100000
namespace Go.Proofs.YtalamcchkkdelaaGreatDoor
open Go.Ev
variable {F : Nat} {h : H}
def Big (F : Nat) : Prop := 281474976710656 ≤ F
theorem Big.w {F : Nat} (h : Big F) (k : Nat) : Big (F + k) := Nat.le_trans h (Nat.le_add_right _ _)
def IsB (h : H) (v : Value) (h' : H) : Prop := h' = h ∧ ∃ b,v = .bool b
def IsI (h : H) (v : Value) (h' : H) : Prop := h' = h ∧ ∃ n,v = vi n
theorem weight_spec (c : Int) : Ans (cf (F + 1) 150 [.int .u8 c] h) (IsI h) := by
 rw [cf_step (a := a150) rfl rfl (by simp [a150])]
 by_cases h1 : c = 47
 ·simp (disch := first|omega|(simp only [zS];first|done|omega)) [bB,a150,r150_0,r150_1,h1,r150_2]
  exact Ans.of ⟨rfl,_,rfl⟩
 ·simp (disch := first|omega|(simp only [zS];first|done|omega)) [bB,a150,r150_0,r150_1,h1,r150_3]
  exact Ans.of ⟨rfl,_,rfl⟩
theorem byte_at (t : ByteArray) {i : Nat} (h : i < slen t) : ∃ c,(bs t)[i]? = some c := ⟨_,List.getElem?_eq_getElem (by simpa using h)⟩
theorem letter_reg {cx : Cx} {kn : K} {Q : Value → H → Prop} {a b : Value} {n : Int} (hk : ∀ x : Bool,Ans (kn [(0,a),(3,b),(4,.int .u8 n),(5,.bool x)] h []) Q) : Ans (evR cx r64_6 [(0,a),(3,b),(4,.int .u8 n)] h kn [0,3,4,5] []) Q := by
 by_cases h1 : n ≥ 97
 ·by_cases h2 : n ≤ 122
  ·simp (disch := first|omega|(simp only [zS];first|done|omega)) [bB,r64_6,h1,h2];exact hk _
  ·by_cases h4 : n ≤ 90
   ·omega
   ·have h3 : n ≥ 65 := by omega
    simp (disch := first|omega|(simp only [zS];first|done|omega)) [bB,r64_6,h1,h2,h3,h4];exact hk _
 ·by_cases h3 : n ≥ 65
  ·by_cases h4 : n ≤ 90
   ·simp (disch := first|omega|(simp only [zS];first|done|omega)) [bB,r64_6,h1,h3,h4];exact hk _
   ·simp (disch := first|omega|(simp only [zS];first|done|omega)) [bB,r64_6,h1,h3,h4];exact hk _
  ·simp (disch := first|omega|(simp only [zS];first|done|omega)) [bB,r64_6,h1,h3];exact hk _
theorem stop_reg {cx : Cx} {kn : K} {Q : Value → H → Prop} {a b : Value} {n : Int} {x : Bool} (hk : ∀ x : Bool,Ans (kn [(0,a),(3,b),(66,.bool x)] h []) Q) : Ans (evR cx r64_7 [(0,a),(3,b),(4,.int .u8 n),(5,.bool x)] h kn [0,3,66] []) Q := by
 cases x with
 | true => simp (disch := first|omega|(simp only [zS];first|done|omega)) [bB,r64_7];exact hk _
 | false =>
  by_cases h1 : n < 48
  ·by_cases h2 : n = 45
   ·simp (disch := first|omega|(simp only [zS];first|done|omega)) [bB,r64_7,h1,h2];exact hk _
   ·by_cases h3 : n = 46
    ·simp (disch := first|omega|(simp only [zS];first|done|omega)) [bB,r64_7,h1,h2,h3];exact hk _
    ·have h4 : ¬ n = 95 := by omega
     simp (disch := first|omega|(simp only [zS];first|done|omega)) [bB,r64_7,h1,h2,h3,h4];exact hk _
  ·by_cases h2 : n > 57
   ·have h3 : ¬ n = 45 := by omega
    have h4 : ¬ n = 46 := by omega
    by_cases h5 : n = 95
    ·simp (disch := first|omega|(simp only [zS];first|done|omega)) [bB,r64_7,h1,h2,h5];exact hk _
    ·simp (disch := first|omega|(simp only [zS];first|done|omega)) [bB,r64_7,h1,h2,h3,h4,h5];exact hk _
   ·simp (disch := first|omega|(simp only [zS];first|done|omega)) [bB,r64_7,h1,h2];exact hk _
theorem nameOf_spec (t : ByteArray) (hF : 100 ≤ F) : Ans (cf (F + 1) 64 [.string t] h) (IsB h) := by
 rw [cf_step (a := a64) rfl rfl (by simp [a64])]
 have fin : ∀ b : Bool,IsB h (.bool b) h := fun b => ⟨rfl,b,rfl⟩
 by_cases h1 : (slen t : Int) < 1
 ·simp (disch := first|omega|(simp only [zS];first|done|omega)) [bB,a64,r64_0,r64_1,h1,r64_2]
  exact Ans.of (fin _)
 by_cases h2 : (slen t : Int) > 16
 ·simp (disch := first|omega|(simp only [zS];first|done|omega)) [bB,a64,r64_0,r64_1,h1,h2,r64_2]
  exact Ans.of (fin _)
 cases h3 : (t == str46) with
 | true =>
  simp (disch := first|omega|(simp only [zS];first|done|omega)) [bB,a64,r64_0,r64_1,h1,h2,h3,r64_2]
  exact Ans.of (fin _)
 | false =>
 cases h4 : (t == str46_46) with
 | true =>
  simp (disch := first|omega|(simp only [zS];first|done|omega)) [bB,a64,r64_0,r64_1,h1,h2,h3,h4,r64_2]
  exact Ans.of (fin _)
 | false =>
 simp (disch := first|omega|(simp only [zS];first|done|omega)) [bB,a64,r64_0,r64_1,h1,h2,h3,h4,r64_3]
 refine loop_rule (fun m e g => ∃ i : Nat,i ≤ slen t ∧ m = slen t - i ∧ g = h ∧ e = [(0,.string t),(3,vi i)]) ?_ F (slen t - 0) _ h (by omega) ⟨0,by omega,rfl,rfl,rfl⟩
 rintro m e g again ⟨i,hi,rfl,rfl,rfl⟩ hag
 by_cases hlt : i < slen t
 ·have hlt' : (i : Int) < slen t := by omega
  obtain ⟨c,hc⟩ := byte_at t hlt
  have wi : IntKind.i64.wrap ((i : Int) + 1) = (i : Int) + 1 := wrap_in (by omega) (by omega)
  simp (disch := first|omega|(simp only [zS];first|done|omega)) [bB,l64_10,r64_4,hlt',r64_5,atS_nat hc]
  refine letter_reg fun x => ?_
  simp (disch := first|omega|(simp only [zS];first|done|omega)) [bB]
  refine stop_reg fun y => ?_
  cases y with
  | true => simp (disch := first|omega|(simp only [zS];first|done|omega)) [bB,r64_8];exact Ans.of (fin _)
  | false =>
   simp (disch := first|omega|(simp only [zS];first|done|omega)) [bB,r64_9,wi]
   exact hag (slen t - (i + 1)) _ g (by omega) ⟨i + 1,hlt,rfl,rfl,rfl⟩
 ·have : i = slen t := by omega
  subst this
  simp (disch := first|omega|(simp only [zS];first|done|omega)) [bB,l64_10,r64_4,r64_11]
  exact Ans.of (fin _)
theorem order_spec (s t : ByteArray) (hF : slen s < F) (hs : slen s ≤ 140737488355328) : Ans (cf (F + 2) 116 [.string s,.string t] h) (IsI h) := by
 rw [cf_step (a := a116) rfl rfl (by simp [a116])]
 have fin : ∀ n : Int,IsI h (vi n) h := fun n => ⟨rfl,n,rfl⟩
 have e1 := fun c : Int => weight_spec (F := F) (h := h) c
 generalize cf (F + 1) = c at *
 simp (disch := first|omega|(simp only [zS];first|done|omega)) [bB,a116,r116_0,r116_1]
 refine loop_rule (fun m e g => ∃ i : Nat,i ≤ slen s ∧ m = slen s - i ∧ g = h ∧ e = [(0,.string s),(1,.string t),(5,vi i)]) ?_ (F + 1) (slen s - 0) _ h (by omega) ⟨0,by omega,rfl,rfl,rfl⟩
 rintro m e g again ⟨i,hi,rfl,rfl,rfl⟩ hag
 by_cases hlt : i < slen s ∧ i < slen t
 ·obtain ⟨hl1,hl2⟩ := hlt
  have hl1' : (i : Int) < slen s := by omega
  have hl2' : (i : Int) < slen t := by omega
  obtain ⟨c1,hc1⟩ := byte_at s hl1
  obtain ⟨c2,hc2⟩ := byte_at t hl2
  have wi : IntKind.i64.wrap ((i : Int) + 1) = (i : Int) + 1 := wrap_in (by omega) (by omega)
  simp (disch := first|omega|(simp only [zS];first|done|omega)) [bB,l116_10,r116_2,hl1',hl2',r116_3,atS_nat hc1]
  refine Ans.nextC (e1 _) ?_
  rintro v h' ⟨rfl,x,rfl⟩
  simp (disch := first|omega|(simp only [zS];first|done|omega)) [bB,r116_4,atS_nat hc2]
  refine Ans.nextC (e1 _) ?_
  rintro v h' ⟨rfl,y,rfl⟩
  by_cases hxy : x < y
  ·simp (disch := first|omega|(simp only [zS];first|done|omega)) [bB,r116_5,hxy,r116_6];exact Ans.of (fin _)
  by_cases hyx : x > y
  ·simp (disch := first|omega|(simp only [zS];first|done|omega)) [bB,r116_5,hxy,r116_7,hyx,r116_8];exact Ans.of (fin _)
  simp (disch := first|omega|(simp only [zS];first|done|omega)) [bB,r116_5,hxy,r116_7,hyx,r116_9,wi]
  exact hag (slen s - (i + 1)) _ _ (by omega) ⟨i + 1,hl1,rfl,rfl,rfl⟩
 ·by_cases h1 : (i : Int) < slen s
  ·have h2 : ¬ (i : Int) < slen t := by omega
   by_cases h3 : (slen s : Int) < slen t
   ·simp (disch := first|omega|(simp only [zS];first|done|omega)) [bB,l116_10,r116_2,h1,h2,r116_11,h3,r116_12];exact Ans.of (fin _)
   by_cases h4 : (slen s : Int) > slen t
   ·simp (disch := first|omega|(simp only [zS];first|done|omega)) [bB,l116_10,r116_2,h1,h2,r116_11,h3,r116_13,h4,r116_14];exact Ans.of (fin _)
   simp (disch := first|omega|(simp only [zS];first|done|omega)) [bB,l116_10,r116_2,h1,h2,r116_11,h3,r116_13,h4,r116_15];exact Ans.of (fin _)
  ·by_cases h3 : (slen s : Int) < slen t
   ·simp (disch := first|omega|(simp only [zS];first|done|omega)) [bB,l116_10,r116_2,h1,r116_11,h3,r116_12];exact Ans.of (fin _)
   by_cases h4 : (slen s : Int) > slen t
   ·simp (disch := first|omega|(simp only [zS];first|done|omega)) [bB,l116_10,r116_2,h1,r116_11,h3,r116_13,h4,r116_14];exact Ans.of (fin _)
   simp (disch := first|omega|(simp only [zS];first|done|omega)) [bB,l116_10,r116_2,h1,r116_11,h3,r116_13,h4,r116_15];exact Ans.of (fin _)
end Go.Proofs.YtalamcchkkdelaaGreatDoor
end
section
set_option maxRecDepth 100000
namespace Go.Proofs.YtalamcchkkdelaaGreatDoor
open Go.Ev
variable {F : Nat} {h : H}
theorem one_np {v : Value} (e : oneCell v = true) : isPan v = false := by
 cases v <;> first
  | rfl
  | (simp [oneCell] at e)
theorem kept_set {g : H} {b : Nat} {x : Blk} (k : Kept h g []) (hb : h.size ≤ b) : Kept h (g.setIfInBounds b x) [] :=
 ⟨by simpa using k.1,fun c hc hn => by rw [set_other (by omega)];exact k.2 c hc hn⟩
theorem slr_kept {α : Type} {ok : Nat → Prop} {w : Nat} {R : H → List Value → α → Prop} {h g : H} {v : Value} {xs : List α} (s : SlR ok w R h v xs) (hk : Kept h g []) (hR : ∀ cs,∀ x ∈ xs,R h cs x → R g cs x) : SlR ok w R g v xs :=
 s.imp (fun _ _ q => q) hR fun b cs _ hb => by
  obtain ⟨es,lv,an,hg⟩ := cel_inv hb
  exact cel_of ((hk.get (lt_of_get hg) (by simp)).trans hg)
theorem slr_any {α : Type} {ok : Nat → Prop} {w : Nat} {R : H → List Value → α → Prop} {h : H} {v : Value} {xs : List α} (s : SlR ok w R h v xs) : SlR (fun _ => True) w R h v xs :=
 s.imp (fun _ _ _ => trivial) (fun _ _ _ q => q) fun _ _ _ q => q
theorem put_new {α : Type} {w bytes : Nat} {R : H → List Value → α → Prop} {g : H} {v : Value} {xs : List α} (s : Bld (fun b => h.size ≤ b) w R g v xs) (k : Kept h g []) (new : List Value) {x : α} (hn : new.length = w) (hb : (xs.length + 1) * bytes ≤ 2 ^ 47)
  (hR : ∀ h1 h2,KeptC h1 h2 [] → ∀ cs,∀ y ∈ xs,R h1 cs y → R h2 cs y) (hx : ∀ h',KeptC g h' [] → R h' new x) :
  ∃ v' g',appendTo (Ev.newRow g new w []) w bytes v 1 new = some (v',g') ∧ Bld (fun b => h.size ≤ b) w R g' v' (xs ++ [x]) ∧ Kept h g' [] := by
 have k0 := rowKept g new w []
 have hgs := k.1
 have s1 := s.kept k0 (by simp) fun cs y hy q => hR _ _ k0.c cs y hy q
 obtain ⟨v',h',e,h1,h2,_,h4,_⟩ := s1.app (x := x) (bytes := bytes) hn hb (by simp;omega) (fun h' k cs y hy q => hR _ _ k cs y hy q) fun h' k => hx h' (k0.c.trans k)
 refine ⟨v',h',e,h1,⟨by have := h2.1;have := k0.1;omega,fun b hb hn => ?_⟩⟩
 rw [h4 b (by have := k0.1;omega) (s1.ne (by omega)),k0.get (by omega) (by simp)]
 exact k.get hb (by simp)
def TxR (_ : H) (cs : List Value) (t : ByteArray) : Prop := cs = [.string t]
theorem tx_at {ok : Nat → Prop} {g : H} {v : Value} {xs : List ByteArray} (s : SlR ok 1 TxR g v xs) {i : Nat} {x : ByteArray} (hx : xs[i]? = some x) :
  ∃ b o c cs es lv an,v = .slice (some ⟨b,o,none⟩) xs.length c ∧ hget g b = some (.cells cs es lv an) ∧ o + i + 1 ≤ cs.length ∧ (cs.drop (o + i)).take 1 = [.string x] := by
 obtain ⟨b,o,c,cs,es,lv,an,e,_,hg,hl,hr⟩ := s.at' hx
 rw [Nat.mul_one] at hl hr
 exact ⟨b,o,c,cs,es,lv,an,e,hg,hl,hr⟩
def Few (xs : List ByteArray) : Prop := xs.length ≤ 103 ∧ ∀ x ∈ xs,slen x ≤ 102
theorem pieces_spec (t : ByteArray) (h1 : 1 ≤ slen t) (h2 : slen t ≤ 102) (hF : 200 ≤ F) : Ans (cf (F + 1) 63 [.string t] h) fun v h' => Kept h h' [] ∧ ∃ xs,SlR (fun b => h.size ≤ b) 1 TxR h' v xs ∧ Few xs := by
 rw [cf_step (a := a63) rfl rfl (by simp [a63])]
 simp (disch := first|omega|(simp only [zS];first|done|omega)) [bB,a63,r63_0,r63_1,r63_2,r63_3]
 refine loop_rule (fun m e g => ∃ (i k : Nat) (lv : Value) (xs : List ByteArray),1 ≤ i ∧ i ≤ slen t + 1 ∧ k ≤ i ∧ m = slen t + 1 - i ∧ Kept h g [] ∧ e = [(0,.string t),(3,lv),(4,vi k),(5,vi i)] ∧ Bld (fun b => h.size ≤ b) 1 TxR g lv xs ∧ xs.length + 1 ≤ i ∧ (∀ x ∈ xs,slen x ≤ 102))
  ?_ F (slen t + 1 - 1) _ h (by omega) ⟨1,1,_,[],by omega,by omega,by omega,rfl,Kept.refl _ _,rfl,Bld.nil _ _ _ _,by simp,by simp⟩
 rintro m e g again ⟨i,k,lv,xs,hi1,hi2,hk,rfl,hkg,rfl,hB,hxl,hxs⟩ hag
 by_cases hle : i ≤ slen t
 ·have hle' : (i : Int) ≤ slen t := by omega
  have wi : IntKind.i64.wrap ((i : Int) + 1) = ((i + 1 : Nat) : Int) := by rw [wrap_in (by omega) (by omega)];omega
  have cut : cutS t k i g = some (.string (t.extract k i),g) := cutS_ok (by omega) hle
  have hcl : slen (t.extract k i) ≤ 102 := by rw [slen_ext t hk hle];omega
  obtain ⟨v',g',c1,c2,c3⟩ := put_new hB hkg (bytes := 16) [.string (t.extract k i)] (x := t.extract k i) rfl (by omega) (fun _ _ _ _ _ _ q => q) (fun _ _ => rfl)
  have nx : Ans (again [(0,.string t),(3,v'),(4,vi ((i + 1 : Nat) : Int)),(5,vi ((i + 1 : Nat) : Int))] g' []) fun v h' => Kept h h' [] ∧ ∃ xs,SlR (fun b => h.size ≤ b) 1 TxR h' v xs ∧ Few xs :=
   hag (slen t + 1 - (i + 1)) _ g' (by omega) ⟨i + 1,i + 1,v',_,by omega,by omega,by omega,rfl,c3,rfl,c2,by simp;omega,fun x hx => by
    rcases List.mem_append.1 hx with hx | hx
    ·exact hxs x hx
    ·rw [List.mem_singleton] at hx;subst hx;exact hcl⟩
  by_cases he : i = slen t
  ·have he' : (i : Int) = slen t := by omega
   have hki : (k : Int) ≤ i := by omega
   simp (disch := first|omega|(simp only [zS];first|done|omega)) [bB,l63_9,r63_4,hle',r63_5,he',r63_6,pcS_eq,optInt,cut]
   simp (disch := first|omega|(simp only [zS];first|done|omega)) [bB,← he',← he,cut,srcOf,isText,c1,r63_7,r63_8,wi]
   exact nx
  ·have he' : ¬ (i : Int) = slen t := by omega
   obtain ⟨c,hc⟩ := byte_at t (show i < slen t by omega)
   by_cases hc47 : (c.toNat : Int) = 47
   ·simp (disch := first|omega|(simp only [zS];first|done|omega)) [bB,l63_9,r63_4,hle',r63_5,he',atS_nat hc,hc47,r63_6,pcS_eq,optInt,cut,srcOf,isText,c1,r63_7,r63_8,wi]
    exact nx
   ·simp (disch := first|omega|(simp only [zS];first|done|omega)) [bB,l63_9,r63_4,hle',r63_5,he',atS_nat hc,hc47,r63_8,wi]
    exact hag (slen t + 1 - (i + 1)) _ g (by omega) ⟨i + 1,k,lv,xs,by omega,by omega,by omega,rfl,hkg,rfl,hB,by omega,hxs⟩
 ·have hle' : ¬ (i : Int) ≤ slen t := by omega
  have np := one_np hB.sl.one
  simp (disch := first|omega|(simp only [zS];first|done|omega)) [bB,l63_9,r63_4,hle',r63_10,np]
  exact Ans.of ⟨hkg,xs,hB.sl,by omega,hxs⟩
def ParsV (ok : Nat → Prop) (t : ByteArray) (v : Value) (h' : H) : Prop := ∃ (sl : Value) (e : Int) (xs : List ByteArray),v = .tuple ⟨[sl,vi e]⟩ ∧ SlR ok 1 TxR h' sl xs ∧ Few xs ∧ (e = 0 → slen t ≤ 102)
theorem few_nil : Few [] := ⟨by simp,by simp⟩
theorem parse1_spec (t : ByteArray) (hF : 200 ≤ F) : Ans (cf (F + 2) 26 [.string t] h) fun v h' => Kept h h' [] ∧ ParsV (fun b => h.size ≤ b) t v h' := by
 rw [cf_step (a := a26) rfl rfl (by simp [a26])]
 have e1 := fun (h1 : 1 ≤ slen t) (h2 : slen t ≤ 102) => pieces_spec (F := F) (h := h) t h1 h2 hF
 have e2 := fun (g : H) (x : ByteArray) => nameOf_spec (F := F) (h := g) x (by omega)
 generalize cf (F + 1) = c at *
 have nil : SlR (fun b => h.size ≤ b) 1 TxR h (.slice none 0 0) [] := .inl ⟨.inl rfl,rfl⟩
 have bad : ∀ e : Int,¬ e = 0 → ParsV (fun b => h.size ≤ b) t (.tuple ⟨[.slice none 0 0,vi e]⟩) h := fun e he => ⟨_,_,[],rfl,nil,few_nil,fun q => absurd q he⟩
 by_cases h1 : (slen t : Int) > 102
 ·simp (disch := first|omega|(simp only [zS];first|done|omega)) [bB,a26,r26_0,r26_1,h1,r26_2]
  exact Ans.of ⟨Kept.refl _ _,bad _ (by decide)⟩
 cases h2 : (t == str47) with
 | true =>
  simp (disch := first|omega|(simp only [zS];first|done|omega)) [bB,a26,r26_0,r26_1,h1,r26_3,h2,r26_4]
  exact Ans.of ⟨Kept.refl _ _,_,_,[],rfl,nil,few_nil,fun _ => by omega⟩
 | false =>
 cases h3 : (t == ByteArray.mk #[]) with
 | true =>
  simp (disch := first|omega|(simp only [zS];first|done|omega)) [bB,a26,r26_0,r26_1,h1,r26_3,h2,r26_5,h3,r26_6]
  exact Ans.of ⟨Kept.refl _ _,bad _ (by decide)⟩
 | false =>
 have hpos : 1 ≤ slen t := by
  cases hz : slen t with
  | zero =>
   have e : t = ByteArray.mk #[] := bs_inj (by
    have : (bs t).length = 0 := by simpa using hz
    exact List.length_eq_zero_iff.1 this)
   rw [e,ba_self] at h3
   cases h3
  | succ n => omega
 obtain ⟨c0,hc0⟩ := byte_at t (show 0 < slen t by omega)
 have at0 : atS t 0 h = some (.int .u8 c0.toNat,h) := atS_nat (i := 0) hc0
 by_cases h4 : (c0.toNat : Int) = 47
 case neg =>
  simp (disch := first|omega|(simp only [zS];first|done|omega)) [bB,a26,r26_0,r26_1,h1,r26_3,h2,r26_5,h3,at0,h4,r26_6]
  exact Ans.of ⟨Kept.refl _ _,bad _ (by decide)⟩
 simp (disch := first|omega|(simp only [zS];first|done|omega)) [bB,a26,r26_0,r26_1,h1,r26_3,h2,r26_5,h3,at0,h4,r26_7]
 refine Ans.nextC (e1 hpos (by omega)) ?_
 rintro v g ⟨k1,xs,hS,hf⟩
 have np := one_np hS.one
 have ln := hS.len
 rw [nextC_ok np]
 by_cases h5 : (xs.length : Int) > 6
 ·simp (disch := first|omega|(simp only [zS];first|done|omega)) [bB,r26_8,ln,h5,r26_9]
  exact Ans.of ⟨k1,_,_,[],rfl,.inl ⟨.inl rfl,rfl⟩,few_nil,fun q => by simp at q⟩
 simp (disch := first|omega|(simp only [zS];first|done|omega)) [bB,r26_8,ln,h5,r26_10]
 refine loop_rule (fun m e g' => ∃ i : Nat,i ≤ xs.length ∧ m = xs.length - i ∧ g' = g ∧ e = [(4,v),(5,vi i)]) ?_ (F + 1) (xs.length - 0) _ g (by omega) ⟨0,by omega,rfl,rfl,rfl⟩
 rintro m e g' again ⟨i,hi,rfl,rfl,rfl⟩ hag
 by_cases hlt : i < xs.length
 ·have hlt' : (i : Int) < xs.length := by omega
  obtain ⟨x,hx⟩ : ∃ x,xs[i]? = some x := ⟨_,List.getElem?_eq_getElem hlt⟩
  obtain ⟨b,o,cc,cs,es,lv,an,rfl,hg,hl,hr⟩ := tx_at hS hx
  have wi : IntKind.i64.wrap ((i : Int) + 1) = (i : Int) + 1 := wrap_in (by omega) (by omega)
  simp (disch := first|omega|(simp only [zS];first|done|omega)) [bB,l26_16,r26_11,hlt',r26_12,hg,hl,hr]
  refine Ans.nextC (e2 _ _) ?_
  rintro y h' ⟨rfl,bb,rfl⟩
  cases bb with
  | true =>
   simp (disch := first|omega|(simp only [zS];first|done|omega)) [bB,r26_13,aUn,r26_15,wi]
   exact hag (xs.length - (i + 1)) _ _ (by omega) ⟨i + 1,hlt,rfl,rfl,rfl⟩
  | false =>
   simp (disch := first|omega|(simp only [zS];first|done|omega)) [bB,r26_13,aUn,r26_14]
   exact Ans.of ⟨k1,_,_,[],rfl,.inl ⟨.inl rfl,rfl⟩,few_nil,fun q => by simp at q⟩
 ·have : i = xs.length := by omega
  subst this
  simp (disch := first|omega|(simp only [zS];first|done|omega)) [bB,l26_16,r26_11,ln,r26_17,np]
  exact Ans.of ⟨k1,_,_,xs,rfl,hS,hf,fun _ => by omega⟩
def PlB (t : ByteArray) (h : H) (v : Value) (h' : H) : Prop := Kept h h' [] ∧ ∃ b,v = .bool b ∧ (b = true → slen t ≤ 102)
theorem is_spec (t : ByteArray) (hF : 200 ≤ F) : Ans (cf (F + 3) 113 [.string t] h) (PlB t h) := by
 rw [cf_step (a := a113) rfl rfl (by simp [a113])]
 have e1 := parse1_spec (F := F) (h := h) t hF
 generalize cf (F + 2) = c at *
 simp (disch := first|omega|(simp only [zS];first|done|omega)) [bB,a113,r113_0,r113_1]
 refine Ans.nextC e1 ?_
 rintro v g ⟨k,sl,e,xs,rfl,hS,hf,he⟩
 have vc := hS.vc
 simp (disch := first|omega|(simp only [zS];first|done|omega)) [bB,vc,r113_2]
 exact Ans.of ⟨k,_,rfl,fun q => he (by simpa using q)⟩
theorem of_spec {ok : Nat → Prop} {v : Value} {xs : List ByteArray} (hS : SlR ok 1 TxR h v xs) (hf : Few xs) (hF : 200 ≤ F) : Ans (cf (F + 1) 65 [v] h) fun w h' => h' = h ∧ ∃ s,w = .string s := by
 rw [cf_step (a := a65) rfl rfl (by simp [a65])]
 have ln := hS.len
 obtain ⟨f1,f2⟩ := hf
 simp (disch := first|omega|(simp only [zS];first|done|omega)) [bB,a65,r65_0,r65_1,r65_2]
 refine loop_rule (fun m e g' => ∃ (i : Nat) (s : ByteArray),i ≤ xs.length ∧ m = xs.length - i ∧ g' = h ∧ e = [(0,v),(3,.string s),(4,vi i)] ∧ slen s ≤ i * 103) ?_ F (xs.length - 0) _ h (by omega) ⟨0,_,by omega,rfl,rfl,rfl,Nat.le_refl _⟩
 rintro m e g' again ⟨i,s,hi,rfl,rfl,rfl,hs⟩ hag
 by_cases hlt : i < xs.length
 ·have hlt' : (i : Int) < xs.length := by omega
  obtain ⟨x,hx⟩ : ∃ x,xs[i]? = some x := ⟨_,List.getElem?_eq_getElem hlt⟩
  obtain ⟨b,o,cc,cs,es,lv,an,rfl,hg,hl,hr⟩ := tx_at hS hx
  have wi : IntKind.i64.wrap ((i : Int) + 1) = (i : Int) + 1 := wrap_in (by omega) (by omega)
  have hx2 := f2 x (List.mem_of_getElem? hx)
  have hi103 : i * 103 ≤ 20000 := by omega
  have s1 : slen (s ++ str47) = slen s + 1 := by rw [slen_app];rfl
  have q1 : ¬ ((slen s : Int) + slen str47 > 9223372036854775807) := by rw [show slen str47 = 1 from rfl];omega
  have q2 : ¬ ((slen (s ++ str47) : Int) + slen x > 9223372036854775807) := by rw [s1];omega
  have q1' : ¬ (9223372036854775807 < (slen s : Int) + slen str47) := by omega
  have q2' : ¬ (9223372036854775807 < (slen (s ++ str47) : Int) + slen x) := by omega
  have q3' : ¬ (9223372036854775807 < (slen s : Int) + slen str47 + slen x) := by rw [show slen str47 = 1 from rfl];omega
  simp (disch := first|omega|(simp only [zS];first|done|omega)) [bB,l65_6,r65_3,hlt',r65_4,hg,hl,hr,q1,q2,q1',q2',q3',r65_5,wi]
  exact hag (xs.length - (i + 1)) _ _ (by omega) ⟨i + 1,_,hlt,rfl,rfl,rfl,by rw [slen_app,s1];omega⟩
 ·have : i = xs.length := by omega
  subst this
  cases h3 : (s == ByteArray.mk #[]) with
  | true =>
   simp (disch := first|omega|(simp only [zS];first|done|omega)) [bB,l65_6,r65_3,ln,r65_7,h3,r65_8]
   exact Ans.of ⟨rfl,_,rfl⟩
  | false =>
   simp (disch := first|omega|(simp only [zS];first|done|omega)) [bB,l65_6,r65_3,ln,r65_7,h3,r65_9]
   exact Ans.of ⟨rfl,_,rfl⟩
end Go.Proofs.YtalamcchkkdelaaGreatDoor
end
section
set_option maxRecDepth 100000
namespace Go.Proofs.YtalamcchkkdelaaGreatDoor
open Go.Ev
variable {F : Nat} {h : H}
def PaV (h : H) (v : Value) (h' : H) : Prop := Kept h h' [] ∧ ∃ p e,v = .tuple ⟨[.string p,vi e]⟩
def StV (h : H) (v : Value) (h' : H) : Prop := Kept h h' [] ∧ ∃ p,v = .string p
def BoV (h : H) (v : Value) (h' : H) : Prop := Kept h h' [] ∧ ∃ b,v = .bool b
def InV (h : H) (v : Value) (h' : H) : Prop := Kept h h' [] ∧ ∃ n,v = vi n
theorem slr_take {α : Type} {ok : Nat → Prop} {w : Nat} {R : H → List Value → α → Prop} {h : H} {b o n c : Nat} {xs : List α} (s : SlR ok w R h (.slice (some ⟨b,o,none⟩) xs.length c) xs) (hn : n ≤ xs.length) (hp : 0 < xs.length) : SlR ok w R h (.slice (some ⟨b,o,none⟩) n c) (xs.take n) := by
 obtain ⟨b',o',c',cs,e,hc,hk,hb,hi⟩ := s.row hp
 injection e with e1 e2 e3
 injection e1 with e1
 injection e1 with e1 e4
 subst e1 e3 e4
 refine .inr ⟨b,o,c,cs,by rw [List.length_take,Nat.min_eq_left hn],by rw [List.length_take];omega,hk,hb,fun i x hx => ?_⟩
 rw [List.getElem?_take] at hx
 split at hx
 ·exact hi i x hx
 ·cases hx
theorem parent1_spec (t : ByteArray) (hF : 200 ≤ F) : Ans (cf (F + 3) 151 [.string t] h) (PaV h) := by
 rw [cf_step (a := a151) rfl rfl (by simp [a151])]
 have e1 := parse1_spec (F := F) (h := h) t hF
 have e2 := fun (g : H) (v : Value) (xs : List ByteArray) (hS : SlR (fun _ => True) 1 TxR g v xs) (hf : Few xs) => of_spec (F := F + 1) hS hf (by omega)
 generalize cf (F + 2) = c at *
 simp (disch := first|omega|(simp only [zS];first|done|omega)) [bB,a151,r151_0,r151_1]
 refine Ans.nextC e1 ?_
 rintro v g ⟨k,sl,e,xs,rfl,hS,hf,he⟩
 have vc := hS.vc
 have ln := hS.len
 by_cases h1 : e = 0
 case neg =>
  simp (disch := first|omega|(simp only [zS];first|done|omega)) [bB,vc,r151_2,h1,r151_3]
  exact Ans.of ⟨k,_,_,rfl⟩
 by_cases h2 : xs.length = 0
 ·have h2' : (xs.length : Int) = 0 := by omega
  simp (disch := first|omega|(simp only [zS];first|done|omega)) [bB,vc,r151_2,h1,r151_4,ln,h2',r151_5]
  exact Ans.of ⟨k,_,_,rfl⟩
 have h2' : ¬ (xs.length : Int) = 0 := by omega
 obtain ⟨b,o,cc,cs,rfl,hc,_,_,_⟩ := hS.row (by omega)
 have hT := slr_take (n := xs.length - 1) (slr_any hS) (by omega) (by omega)
 have wl : IntKind.i64.wrap ((xs.length : Int) - 1) = ((xs.length - 1 : Nat) : Int) := by
  obtain ⟨f1,f2⟩ := hf
  rw [wrap_in (by omega) (by omega)];omega
 simp (disch := first|omega|(simp only [zS];first|done|omega)) [bB,r151_2,h1,r151_4,h2',r151_6,wl]
 refine Ans.nextC (e2 g _ _ hT ⟨by rw [List.length_take];have := hf.1;omega,fun x hx => hf.2 x (List.mem_of_mem_take hx)⟩) ?_
 rintro w g' ⟨rfl,p,rfl⟩
 simp (disch := first|omega|(simp only [zS];first|done|omega)) [bB]
 exact Ans.of ⟨k,_,_,rfl⟩
theorem above_spec (t : ByteArray) (hF : 200 ≤ F) : Ans (cf (F + 4) 118 [.string t] h) (StV h) := by
 rw [cf_step (a := a118) rfl rfl (by simp [a118])]
 have e1 := parent1_spec (F := F) (h := h) t hF
 generalize cf (F + 3) = c at *
 simp (disch := first|omega|(simp only [zS];first|done|omega)) [bB,a118,r118_0,r118_1]
 refine Ans.nextC e1 ?_
 rintro v g ⟨k,p,e,rfl⟩
 simp (disch := first|omega|(simp only [zS];first|done|omega)) [bB,r118_2]
 exact Ans.of ⟨k,_,rfl⟩
theorem below1_spec (s t : ByteArray) (hF : 200 ≤ F) : Ans (cf (F + 3) 149 [.string s,.string t] h) (BoV h) := by
 rw [cf_step (a := a149) rfl rfl (by simp [a149])]
 have e1 := fun (g : H) (x : ByteArray) => parse1_spec (F := F) (h := g) x hF
 generalize cf (F + 2) = c at *
 simp (disch := first|omega|(simp only [zS];first|done|omega)) [bB,a149,r149_0,r149_1]
 refine Ans.nextC (e1 _ _) ?_
 rintro v g ⟨k,sl,e,xs,rfl,hS,hf,he⟩
 have vc := hS.vc
 simp (disch := first|omega|(simp only [zS];first|done|omega)) [bB,vc,r149_2]
 refine Ans.nextC (e1 _ _) ?_
 rintro v g' ⟨k',tl,e',ys,rfl,hT,hf',he'⟩
 have vc' := hT.vc
 have ln := hS.len
 have ln' := hT.len
 have hS := slr_kept hS k' fun _ _ _ q => q
 have k2 := k.trans k'
 by_cases h1 : (xs.length : Int) ≤ ys.length
 ·simp (disch := first|omega|(simp only [zS];first|done|omega)) [bB,vc',r149_3,ln,ln',h1,r149_4]
  exact Ans.of ⟨k2,_,rfl⟩
 simp (disch := first|omega|(simp only [zS];first|done|omega)) [bB,vc',r149_3,ln,ln',h1,r149_5]
 have hy := hf'.1
 refine loop_rule (fun m e g2 => ∃ i : Nat,i ≤ ys.length ∧ m = ys.length - i ∧ g2 = g' ∧ e = [(5,sl),(7,tl),(9,vi i)]) ?_ (F + 2) (ys.length - 0) _ g' (by omega) ⟨0,by omega,rfl,rfl,rfl⟩
 rintro m e g2 again ⟨i,hi,rfl,rfl,rfl⟩ hag
 by_cases hlt : i < ys.length
 ·have hlt' : (i : Int) < ys.length := by omega
  have hlx' : (i : Int) < xs.length := by omega
  obtain ⟨x,hx⟩ : ∃ x,xs[i]? = some x := ⟨_,List.getElem?_eq_getElem (by omega)⟩
  obtain ⟨y,hy'⟩ : ∃ x,ys[i]? = some x := ⟨_,List.getElem?_eq_getElem hlt⟩
  obtain ⟨b,o,cc,cs,es,lv,an,rfl,hg,hl,hr⟩ := tx_at hS hx
  obtain ⟨b',o',cc',cs',es',lv',an',rfl,hg',hl',hr'⟩ := tx_at hT hy'
  have wi : IntKind.i64.wrap ((i : Int) + 1) = (i : Int) + 1 := wrap_in (by omega) (by omega)
  cases hxy : (x != y) with
  | true =>
   simp (disch := first|omega|(simp only [zS];first|done|omega)) [bB,l149_10,r149_6,hlt',hlx',d149_7,hg,hl,hr,hg',hl',hr',hxy,r149_8]
   exact Ans.of ⟨k2,_,rfl⟩
  | false =>
   simp (disch := first|omega|(simp only [zS];first|done|omega)) [bB,l149_10,r149_6,hlt',hlx',d149_7,hg,hl,hr,hg',hl',hr',hxy,r149_9,wi]
   exact hag (ys.length - (i + 1)) _ _ (by omega) ⟨i + 1,hlt,rfl,rfl,rfl⟩
 ·have : i = ys.length := by omega
  subst this
  simp (disch := first|omega|(simp only [zS];first|done|omega)) [bB,l149_10,r149_6,ln',r149_11]
  exact Ans.of ⟨k2,_,rfl⟩
structure Sn where
 place : ByteArray
 data : ByteArray
 version : Int
def snC (s : Sn) : List Value := [.string s.place,.string s.data,vi s.version]
def SnR (_ : H) (cs : List Value) (s : Sn) : Prop := cs = snC s
theorem sn_at {ok : Nat → Prop} {g : H} {v : Value} {xs : List Sn} (s : SlR ok 3 SnR g v xs) {i : Nat} {x : Sn} (hx : xs[i]? = some x) :
  ∃ b o c cs es lv an,v = .slice (some ⟨b,o,none⟩) xs.length c ∧ hget g b = some (.cells cs es lv an) ∧ o + i * 3 + 3 ≤ cs.length ∧ (cs.drop (o + i * 3)).take 3 = snC x := by
 obtain ⟨b,o,c,cs,es,lv,an,e,_,hg,hl,hr⟩ := s.at' hx
 exact ⟨b,o,c,cs,es,lv,an,e,hg,hl,hr⟩
theorem take1_of {cs : List Value} {o n : Nat} {a : Value} {l : List Value} (h : (cs.drop o).take (n + 1) = a :: l) : (cs.drop o).take 1 = [a] := by
 have : ((cs.drop o).take (n + 1)).take 1 = [a] := by rw [h];rfl
 rwa [List.take_take,Nat.min_eq_left (by omega)] at this
theorem find_spec {ok : Nat → Prop} {v : Value} {xs : List Sn} (hS : SlR ok 3 SnR h v xs) (t : ByteArray) (hn : xs.length ≤ 64) (hF : 200 ≤ F) : Ans (cf (F + 1) 117 [v,.string t] h) (IsI h) := by
 rw [cf_step (a := a117) rfl rfl (by simp [a117])]
 have ln := hS.len
 have fin : ∀ n : Int,IsI h (vi n) h := fun n => ⟨rfl,n,rfl⟩
 simp (disch := first|omega|(simp only [zS];first|done|omega)) [bB,a117,r117_0,r117_1]
 refine loop_rule (fun m e g2 => ∃ i : Nat,i ≤ xs.length ∧ m = xs.length - i ∧ g2 = h ∧ e = [(0,v),(1,.string t),(5,vi i)]) ?_ F (xs.length - 0) _ h (by omega) ⟨0,by omega,rfl,rfl,rfl⟩
 rintro m e g2 again ⟨i,hi,rfl,rfl,rfl⟩ hag
 by_cases hlt : i < xs.length
 ·have hlt' : (i : Int) < xs.length := by omega
  obtain ⟨x,hx⟩ : ∃ x,xs[i]? = some x := ⟨_,List.getElem?_eq_getElem hlt⟩
  obtain ⟨b,o,cc,cs,es,lv,an,rfl,hg,hl,hr⟩ := sn_at hS hx
  have h1 := take1_of hr
  have hl1 : o + i * 3 + 1 ≤ cs.length := by omega
  have wi : IntKind.i64.wrap ((i : Int) + 1) = (i : Int) + 1 := wrap_in (by omega) (by omega)
  cases hxy : (x.place == t) with
  | true =>
   simp (disch := first|omega|(simp only [zS];first|done|omega)) [bB,l117_6,r117_2,hlt',r117_3,hg,hl1,h1,hxy,r117_4]
   exact Ans.of (fin _)
  | false =>
   simp (disch := first|omega|(simp only [zS];first|done|omega)) [bB,l117_6,r117_2,hlt',r117_3,hg,hl1,h1,hxy,r117_5,wi]
   exact hag (xs.length - (i + 1)) _ _ (by omega) ⟨i + 1,hlt,rfl,rfl,rfl⟩
 ·have : i = xs.length := by omega
  subst this
  simp (disch := first|omega|(simp only [zS];first|done|omega)) [bB,l117_6,r117_2,ln,r117_7]
  exact Ans.of (fin _)
theorem holds_spec (t : ByteArray) (n : Int) : Ans (cf (F + 1) 115 [.string t,vi n] h) (IsB h) := by
 rw [cf_step (a := a115) rfl rfl (by simp [a115])]
 have fin : ∀ b : Bool,IsB h (.bool b) h := fun b => ⟨rfl,b,rfl⟩
 by_cases h1 : (slen t : Int) ≤ 64
 ·by_cases h2 : n ≥ 0
  ·by_cases h3 : n ≤ 2147483647
   ·simp (disch := first|omega|(simp only [zS];first|done|omega)) [bB,a115,r115_0,r115_1,h1,h2,h3];exact Ans.of (fin _)
   ·simp (disch := first|omega|(simp only [zS];first|done|omega)) [bB,a115,r115_0,r115_1,h1,h2,h3];exact Ans.of (fin _)
  ·simp (disch := first|omega|(simp only [zS];first|done|omega)) [bB,a115,r115_0,r115_1,h1,h2];exact Ans.of (fin _)
 ·simp (disch := first|omega|(simp only [zS];first|done|omega)) [bB,a115,r115_0,r115_1,h1];exact Ans.of (fin _)
theorem in_spec (kind : Int) (s t : ByteArray) (hF : 200 ≤ F) : Ans (cf (F + 5) 114 [vi kind,.string s,.string t] h) (BoV h) := by
 rw [cf_step (a := a114) rfl rfl (by simp [a114])]
 have e1 := above_spec (F := F) (h := h) t hF
 have e2 := below1_spec (F := F + 1) (h := h) t s (by omega)
 generalize cf (F + 4) = c at *
 cases h1 : (t == s) with
 | true =>
  simp (disch := first|omega|(simp only [zS];first|done|omega)) [bB,a114,r114_0,r114_1,h1,r114_2]
  exact Ans.of ⟨Kept.refl _ _,_,rfl⟩
 | false =>
 by_cases h2 : kind = 2
 ·simp (disch := first|omega|(simp only [zS];first|done|omega)) [bB,a114,r114_0,r114_1,h1,r114_3,h2,r114_4]
  refine Ans.nextC e1 ?_
  rintro v g ⟨k,p,rfl⟩
  simp (disch := first|omega|(simp only [zS];first|done|omega)) [bB]
  exact Ans.of ⟨k,_,rfl⟩
 by_cases h3 : kind = 3
 ·simp (disch := first|omega|(simp only [zS];first|done|omega)) [bB,a114,r114_0,r114_1,h1,r114_3,h2,r114_5,h3]
  refine Ans.nextC e2 ?_
  rintro v g ⟨k,p,rfl⟩
  simp (disch := first|omega|(simp only [zS];first|done|omega)) [bB]
  exact Ans.of ⟨k,_,rfl⟩
 ·simp (disch := first|omega|(simp only [zS];first|done|omega)) [bB,a114,r114_0,r114_1,h1,r114_3,h2,r114_5,h3]
  exact Ans.of ⟨Kept.refl _ _,_,rfl⟩
end Go.Proofs.YtalamcchkkdelaaGreatDoor
end
section
set_option maxRecDepth 100000
namespace Go.Proofs.YtalamcchkkdelaaGreatDoor
open Go.Ev
variable {F : Nat} {h : H}
theorem sl_sameV {α : Type} {ok : Nat → Prop} {w : Nat} {R : H → List Value → α → Prop} {h : H} {v : Value} {xs : List α} (s : SlR ok w R h v xs) : Ev.sameV v v = true := by
 rcases s with ⟨rfl | rfl,rfl⟩ | ⟨b,o,c,cs,rfl,_⟩ <;> simp [Ev.sameV,sameCell]
set_option maxHeartbeats 1000000 in
theorem check_tail {G : Nat} {cx : Cx} {kn kr : K} {ke : Nat → K} {Q : Value → H → Prop} {b xb : Nat} {st kd i : Int} {pl : ByteArray} {nv : Value} {x : Sn} {g : H}
  (hB : hget g b = some (.cells [vi st,.string pl,vi kd,nv] 0 true [])) (hA : hget g xb = some (.cells [.string x.place,.string x.data,vi x.version] 0 true [])) (hsame : sameV nv nv = true)
  (e5 : ∀ (g : H) (t : ByteArray),Ans (cx.c 118 [.string t] g) (StV g)) (e6 : ∀ (g' : H),Kept g g' [] → ∀ t : ByteArray,Ans (cx.c 117 [nv,.string t] g') (IsI g'))
  (hr : ∀ g',Kept g g' [] → Ans (kr [(2,vi 51)] g' []) Q) (hk : ∀ g',Kept g g' [] → Ans (kn [(1,.pointer (some ⟨b,0,none⟩)),(3,vi i),(119,.bool false)] g' []) Q) :
  Ans (evR cx r76_12 [(1,.pointer (some ⟨b,0,none⟩)),(3,vi i),(4,.pointer (some ⟨xb,0,none⟩)),(92,.bool false)] g
   (evC G cx (.cond (.tmp 105) (.seq (.region r76_13 [2]) .ret) .skip) (evC G cx (.seq (.regionD d76_14 [(7,[11])] [1,3,119]) (.cond (.tmp 119) (.seq (.region r76_15 [2]) .ret) .skip)) kn ke kr) ke kr) [1,3,4,105] []) Q := by
 have key : Ans (evC G cx (.seq (.regionD d76_14 [(7,[11])] [1,3,119]) (.cond (.tmp 119) (.seq (.region r76_15 [2]) .ret) .skip)) kn ke kr [(1,.pointer (some ⟨b,0,none⟩)),(3,vi i),(4,.pointer (some ⟨xb,0,none⟩)),(105,.bool false)] g []) Q := by
  cases h1 : (x.place != pl) with
  | false =>
   simp (disch := first|omega|(simp only [zS];first|done|omega)) [bB,d76_14,hA,hB,h1,dk_go,chks_nil,chks_cons,chkA_nil,chkA_cons,chk1_no,chk1_yes,chkV_some,hAt_eq,hOf_some,hOf_none,sameV,sameL,sameCell,blanks]
   exact hk _ (Kept.refl _ _)
  | true =>
   simp (disch := first|omega|(simp only [zS];first|done|omega)) [bB,d76_14,hA,hB,h1,blanks]
   refine Ans.nextCD (e5 _ _) ?_
   rintro v g1 ⟨k1,t,rfl⟩
   have hB1 := (k1.get (b := b) (lt_of_get hB) (by simp)).trans hB
   simp (disch := first|omega|(simp only [zS];first|done|omega)) [bB,blanks]
   refine Ans.nextCD (e6 _ k1 _) ?_
   rintro v g2 ⟨rfl,n,rfl⟩
   by_cases h2 : n < 0
   ·simp (disch := first|omega|(simp only [zS];first|done|omega)) [bB,dk_go,chks_nil,chks_cons,chkA_nil,chkA_cons,chk1_no,chk1_yes,chkV_some,hAt_eq,hOf_some,hOf_none,hB,hB1,hsame,h2,r76_15]
    exact hr _ k1
   ·simp (disch := first|omega|(simp only [zS];first|done|omega)) [bB,dk_go,chks_nil,chks_cons,chkA_nil,chkA_cons,chk1_no,chk1_yes,chkV_some,hAt_eq,hOf_some,hOf_none,hB,hB1,hsame,h2]
    exact hk _ k1
 by_cases h1 : kd = 2
 case neg =>
  simp (disch := first|omega|(simp only [zS];first|done|omega)) [bB,r76_12,hB,h1]
  simpa using key
 subst h1
 cases h2 : (x.data != ByteArray.mk #[]) with
 | true =>
  simp (disch := first|omega|(simp only [zS];first|done|omega)) [bB,r76_12,hA,hB,h2,r76_13]
  exact hr _ (Kept.refl _ _)
 | false =>
 by_cases h3 : x.version = 0
 ·simp (disch := first|omega|(simp only [zS];first|done|omega)) [bB,r76_12,hA,hB,h2,h3]
  simpa using key
 ·simp (disch := first|omega|(simp only [zS];first|done|omega)) [bB,r76_12,hA,hB,h2,h3,r76_13]
  exact hr _ (Kept.refl _ _)
set_option maxHeartbeats 2000000 in
theorem check_spec {ok : Nat → Prop} {nv : Value} {xs : List Sn} (st kd : Int) (pl : ByteArray) (hS : SlR ok 3 SnR h nv xs) (hP : ∀ x ∈ xs,slen x.place ≤ 140737488355328) (hF : Big F) : Ans (cf (F + 6) 76 [.agg ⟨[vi st,.string pl,vi kd,nv]⟩] h) (InV h) := by
 unfold Big at hF
 rw [cf_step (a := a76) rfl rfl (by simp [a76])]
 have e1 := fun (g : H) (t : ByteArray) => is_spec (F := F + 2) (h := g) t (by omega)
 have e2 := fun (g : H) (s t : ByteArray) => in_spec (F := F) (h := g) kd s t (by omega)
 have e3 := fun (g : H) (t : ByteArray) (n : Int) => holds_spec (F := F + 4) (h := g) t n
 have e4 := fun (g : H) (s t : ByteArray) (hs : slen s ≤ 140737488355328) => order_spec (F := F + 3) (h := g) s t (by omega) hs
 have e5 := fun (g : H) (t : ByteArray) => above_spec (F := F + 1) (h := g) t (by omega)
 have e6 := fun (g : H) (ok : Nat → Prop) (v : Value) (hS : SlR ok 3 SnR g v xs) (t : ByteArray) (hn : xs.length ≤ 64) => find_spec (F := F + 4) (h := g) hS t hn (by omega)
 generalize cf (F + 5) = c at *
 have ln := hS.len
 have k1 := rowKept h [vi st,.string pl,vi kd,nv] 0 []
 have hB : hget (Ev.newRow h [vi st,.string pl,vi kd,nv] 0 []) h.size = some (.cells [vi st,.string pl,vi kd,nv] 0 true []) := by simp
 simp (disch := first|omega|(simp only [zS];first|done|omega)) [bB,a76,r76_0]
 generalize Ev.newRow h [vi st,.string pl,vi kd,nv] 0 [] = g1 at *
 have out : ∀ (n : Int) (g : H),Kept h g [] → Ans (some (vi n,g)) (InV h) := fun n g k => Ans.of ⟨k,n,rfl⟩
 by_cases h1 : st < 0
 ·simp (disch := first|omega|(simp only [zS];first|done|omega)) [bB,r76_1,hB,h1,r76_2];exact out _ _ k1
 by_cases h2 : st > 2147483647
 ·simp (disch := first|omega|(simp only [zS];first|done|omega)) [bB,r76_1,hB,h1,h2,r76_2];exact out _ _ k1
 simp (disch := first|omega|(simp only [zS];first|done|omega)) [bB,r76_1,hB,h1,h2]
 refine Ans.nextC (e1 _ _) ?_
 rintro v g2 ⟨k2,b,rfl,_⟩
 have k2 := k1.trans k2
 have hB2 := (‹Kept g1 g2 []›.get (b := h.size) (lt_of_get hB) (by simp)).trans hB
 cases b with
 | false => simp (disch := first|omega|(simp only [zS];first|done|omega)) [bB,aUn,r76_2];exact out _ _ k2
 | true =>
 by_cases h3 : kd < 1
 ·simp (disch := first|omega|(simp only [zS];first|done|omega)) [bB,aUn,hB2,h3,r76_2];exact out _ _ k2
 by_cases h4 : kd > 3
 ·simp (disch := first|omega|(simp only [zS];first|done|omega)) [bB,aUn,hB2,h3,h4,r76_2];exact out _ _ k2
 by_cases h5 : (xs.length : Int) > 64
 ·simp (disch := first|omega|(simp only [zS];first|done|omega)) [bB,aUn,hB2,h3,h4,ln,h5,r76_2];exact out _ _ k2
 have h64 : xs.length ≤ 64 := by omega
 have key : Ans (evC (F + 5) (cxOf c (cfX XD) [.tmp 2]) (.seq (.seq (.region r76_5 [1,3]) (.block 0 (.loop [1,3] l76_17))) (.seq (.region r76_18 [2]) .ret)) (endK (cfX XD) [.tmp 2]) noK (endK (cfX XD) [.tmp 2]) [(1,.pointer (some ⟨h.size,0,none⟩)),(43,.bool false)] g2 []) (InV h) := by
  simp (disch := first|omega|(simp only [zS];first|done|omega)) [bB,r76_5]
  refine loop_rule (fun m e g => ∃ i : Nat,i ≤ xs.length ∧ m = xs.length - i ∧ Kept h g [] ∧ hget g h.size = some (.cells [vi st,.string pl,vi kd,nv] 0 true []) ∧ e = [(1,.pointer (some ⟨h.size,0,none⟩)),(3,vi i)]) ?_ (F + 5) (xs.length - 0) _ g2 (by omega) ⟨0,by omega,rfl,k2,hB2,rfl⟩
  rintro m e g again ⟨i,hi,rfl,kg,hBg,rfl⟩ hag
  by_cases hlt : i < xs.length
  ·have hlt' : (i : Int) < xs.length := by omega
   obtain ⟨x,hx⟩ : ∃ x,xs[i]? = some x := ⟨_,List.getElem?_eq_getElem hlt⟩
   have hSg := slr_kept hS kg fun _ _ _ q => q
   obtain ⟨b,o,cc,cs,es,lv,an,rfl,hg,hl,hr⟩ := sn_at hSg hx
   have wi : IntKind.i64.wrap ((i : Int) + 1) = (i : Int) + 1 := wrap_in (by omega) (by omega)
   have kA := rowKept g (snC x) 0 []
   have hA : hget (Ev.newRow g (snC x) 0 []) g.size = some (.cells (snC x) 0 true []) := by simp
   have eqr : Ev.newRow g [.string x.place,.string x.data,vi x.version] 0 [] = Ev.newRow g (snC x) 0 [] := rfl
   have hpl := hP x (List.mem_of_getElem? hx)
   simp (disch := first|omega|(simp only [zS];first|done|omega)) [bB,l76_17,r76_6,hBg,hlt',r76_7,hg,hl,hr,snC]
   rw [eqr]
   have sz : g.size < (Ev.newRow g (snC x) 0 []).size := by simp
   have hB3 := (kA.get (b := h.size) (lt_of_get hBg) (by simp)).trans hBg
   have k3 := kg.trans kA
   generalize Ev.newRow g (snC x) 0 [] = g3 at *
   simp only [snC] at hA
   simp (disch := first|omega|(simp only [zS];first|done|omega)) [bB,r76_8,hA]
   refine Ans.nextC (e1 _ _) ?_
   rintro v g4 ⟨k4,b1,rfl,hb1⟩
   have hA4 := (k4.get (b := g.size) sz (by simp)).trans hA
   have hB4 := (k4.get (b := h.size) (lt_of_get hB3) (by simp)).trans hB3
   have k04 := k3.trans k4
   cases b1 with
   | false => simp (disch := first|omega|(simp only [zS];first|done|omega)) [bB,aUn,r76_9];exact out _ _ k04
   | true =>
   have hsl := hb1 rfl
   simp (disch := first|omega|(simp only [zS];first|done|omega)) [bB,aUn,hB4,hA4]
   refine Ans.nextC (e2 _ _ _) ?_
   rintro v g5 ⟨k5,b2,rfl⟩
   have hA5 := (k5.get (b := g.size) (lt_of_get hA4) (by simp)).trans hA4
   have hB5 := (k5.get (b := h.size) (lt_of_get hB4) (by simp)).trans hB4
   have k05 := k04.trans k5
   cases b2 with
   | false => simp (disch := first|omega|(simp only [zS];first|done|omega)) [bB,aUn,r76_9];exact out _ _ k05
   | true =>
   simp (disch := first|omega|(simp only [zS];first|done|omega)) [bB,aUn,hA5]
   refine Ans.nextC (e3 _ _ _) ?_
   rintro v g6 ⟨rfl,b3,rfl⟩
   cases b3 with
   | false => simp (disch := first|omega|(simp only [zS];first|done|omega)) [bB,aUn,r76_9];exact out _ _ k05
   | true =>
   have hS5 := slr_kept hS k05 fun _ _ _ q => q
   have ev := sl_sameV hS5
   have tail := fun (kn : K) (ke : Nat → K) => check_tail (kn := kn) (ke := ke) (G := F + 5) (cx := cxOf c (cfX XD) [.tmp 2]) (i := i) (Q := InV h) hB5 hA5 ev (fun g t => e5 g t) (fun g' k t => e6 g' _ _ (slr_kept hS5 k fun _ _ _ q => q) t h64) (kr := endK (cfX XD) [.tmp 2]) (fun g' k => by simpa using out 51 g' (k05.trans k))
   simp (disch := first|omega|(simp only [zS];first|done|omega)) [bB,aUn]
   by_cases h8 : i = 0
   ·subst h8
    simp (disch := first|omega|(simp only [zS];first|done|omega)) [bB,d76_10]
    refine tail _ _ fun g' k => ?_
    simp (disch := first|omega|(simp only [zS];first|done|omega)) [bB,r76_16,wi]
    exact hag (xs.length - 1) _ g' (by omega) ⟨1,hlt,rfl,k05.trans k,(k.get (b := h.size) (lt_of_get hB5) (by simp)).trans hB5,rfl⟩
   ·have hi0 : (i : Int) > 0 := by omega
    obtain ⟨y,hy⟩ : ∃ y,xs[i - 1]? = some y := ⟨_,List.getElem?_eq_getElem (by omega)⟩
    obtain ⟨b',o',cc',cs',es',lv',an',e',hg',hl',hr'⟩ := sn_at hS5 hy
    injection e' with q1 q2 q3
    injection q1 with q1
    injection q1 with q1 q4
    subst q1 q4
    have h1' := take1_of hr'
    have hl1' : o + (i - 1) * 3 + 1 ≤ cs'.length := by omega
    have wm : IntKind.i64.wrap ((i : Int) - 1) = ((i - 1 : Nat) : Int) := by rw [wrap_in (by omega) (by omega)];omega
    have hm1 : ((i - 1 : Nat) : Int) < xs.length := by omega
    simp (disch := first|omega|(simp only [zS];first|done|omega)) [bB,d76_10,hi0,hB5,hA5,wm,hm1,hg',hl1',h1']
    refine Ans.nextCE (e4 _ _ _ (hP y (List.mem_of_getElem? hy))) ?_
    rintro v g7 ⟨rfl,n,rfl⟩
    by_cases h9 : n ≥ 0
    ·simp (disch := first|omega|(simp only [zS];first|done|omega)) [bB,h9,r76_11]
     exact out _ _ k05
    ·simp (disch := first|omega|(simp only [zS];first|done|omega)) [bB,h9]
     refine tail _ _ fun g' k => ?_
     simp (disch := first|omega|(simp only [zS];first|done|omega)) [bB,r76_16,wi]
     exact hag (xs.length - (i + 1)) _ g' (by omega) ⟨i + 1,hlt,rfl,k05.trans k,(k.get (b := h.size) (lt_of_get hB5) (by simp)).trans hB5,rfl⟩
  ·have : i = xs.length := by omega
   subst this
   simp (disch := first|omega|(simp only [zS];first|done|omega)) [bB,l76_17,r76_6,hBg,ln,r76_18]
   exact out _ _ kg
 by_cases h6 : xs.length = 0
 ·have h6' : (xs.length : Int) = 0 := by omega
  cases h7 : (pl == str47) with
  | true => simp (disch := first|omega|(simp only [zS];first|done|omega)) [bB,aUn,hB2,h3,h4,ln,h5,h6',r76_3,h7,r76_4];exact out _ _ k2
  | false =>
   simp (disch := first|omega|(simp only [zS];first|done|omega)) [bB,aUn,hB2,h3,h4,ln,h5,h6',r76_3,h7]
   simpa using key
 ·have h6' : ¬ (xs.length : Int) = 0 := by omega
  simp (disch := first|omega|(simp only [zS];first|done|omega)) [bB,aUn,hB2,h3,h4,ln,h5,h6',r76_3]
  simpa using key
end Go.Proofs.YtalamcchkkdelaaGreatDoor
end
section
set_option maxRecDepth 100000
namespace Go.Proofs.YtalamcchkkdelaaGreatDoor
open Go.Ev
variable {F : Nat} {h : H}
def T : Nat → Prop := fun _ => True
structure Opv where
 kind : Int
 place : ByteArray
 data : ByteArray
 version : Int
 flags : Int
def opC (o : Opv) : List Value := [vi o.kind,.string o.place,.string o.data,vi o.version,vi o.flags]
def OpR (_ : H) (cs : List Value) (o : Opv) : Prop := cs = opC o
def IntR (_ : H) (cs : List Value) (n : Int) : Prop := cs = [vi n]
structure Rz where
 place : ByteArray
 data : ByteArray
 version : Int
 made : Int
 changed : Int
 owner : Int
 kids : List ByteArray
def rzC (r : Rz) (v : Value) : List Value := [.string r.place,.string r.data,vi r.version,vi r.made,vi r.changed,vi r.owner,v]
def RzR (h : H) (cs : List Value) (r : Rz) : Prop := ∃ v,cs = rzC r v ∧ SlR T 1 TxR h v r.kids
structure Cg where
 kind : Int
 place : ByteArray
 data : ByteArray
 version : Int
 tags : List Int
def cgC (c : Cg) (v : Value) : List Value := [vi c.kind,.string c.place,.string c.data,vi c.version,v]
def CgR (h : H) (cs : List Value) (c : Cg) : Prop := ∃ v,cs = cgC c v ∧ SlR T 1 IntR h v c.tags
structure Pt where
 id : Int
 stamp : Int
 place : ByteArray
 kind : Int
 nodes : List Sn
def ptC (p : Pt) (v : Value) : List Value := [vi p.id,vi p.stamp,.string p.place,vi p.kind,v]
def PtR (h : H) (cs : List Value) (p : Pt) : Prop := ∃ v,cs = ptC p v ∧ SlR T 3 SnR h v p.nodes
structure Td where
 a0 : Int
 a1 : Int
 kind : Int
 a3 : Int
 a4 : Int
 stamp : Int
 code : Int
 ops : List Opv
 r0 : Int
 r1 : Int
 r2 : Int
 results : List Rz
 w0 : Int
 w1 : ByteArray
 w2 : Int
 w3 : Int
 i0 : Int
 i1 : Int
 mark : Bool
 changes : List Cg
 parts : List Pt
 p0 : Int
 p1 : Int
 p2 : ByteArray
 p3 : Int
 nodes : List Sn
def tdC (t : Td) (vo vr vc vp vn : Value) : List Value := [vi t.a0,vi t.a1,vi t.kind,vi t.a3,vi t.a4,vi t.stamp,vi t.code,vo,vi t.r0,vi t.r1,vi t.r2,vr,vi t.w0,.string t.w1,vi t.w2,vi t.w3,vi t.i0,vi t.i1,.bool t.mark,vc,vp,vi t.p0,vi t.p1,.string t.p2,vi t.p3,vn]
structure TdR (h : H) (t : Td) (vo vr vc vp vn : Value) : Prop where
 ops : SlR T 5 OpR h vo t.ops
 results : SlR T 7 RzR h vr t.results
 changes : SlR T 5 CgR h vc t.changes
 parts : SlR T 5 PtR h vp t.parts
 nodes : SlR T 3 SnR h vn t.nodes
structure TdB (t : Td) : Prop where
 ops : t.ops.length ≤ 2097152
 results : t.results.length ≤ 2097152
 kids : ∀ r ∈ t.results,r.kids.length ≤ 2097152
 changes : t.changes.length ≤ 2097152
 tags : ∀ c ∈ t.changes,c.tags.length ≤ 2097152
 parts : t.parts.length ≤ 2097152
 pnodes : ∀ p ∈ t.parts,p.nodes.length ≤ 2097152 ∧ ∀ n ∈ p.nodes,slen n.place ≤ 140737488355328
 nodes : t.nodes.length ≤ 2097152 ∧ ∀ n ∈ t.nodes,slen n.place ≤ 140737488355328
theorem RzR.kept {h g : H} {cs : List Value} {r : Rz} (q : RzR h cs r) (k : Kept h g []) : RzR g cs r := by
 obtain ⟨v,e,s⟩ := q
 exact ⟨v,e,slr_kept s k fun _ _ _ q => q⟩
theorem CgR.kept {h g : H} {cs : List Value} {r : Cg} (q : CgR h cs r) (k : Kept h g []) : CgR g cs r := by
 obtain ⟨v,e,s⟩ := q
 exact ⟨v,e,slr_kept s k fun _ _ _ q => q⟩
theorem PtR.kept {h g : H} {cs : List Value} {r : Pt} (q : PtR h cs r) (k : Kept h g []) : PtR g cs r := by
 obtain ⟨v,e,s⟩ := q
 exact ⟨v,e,slr_kept s k fun _ _ _ q => q⟩
theorem TdR.kept {h g : H} {t : Td} {vo vr vc vp vn : Value} (q : TdR h t vo vr vc vp vn) (k : Kept h g []) : TdR g t vo vr vc vp vn :=
 ⟨slr_kept q.ops k fun _ _ _ q => q,slr_kept q.results k fun _ _ _ q => q.kept k,slr_kept q.changes k fun _ _ _ q => q.kept k,slr_kept q.parts k fun _ _ _ q => q.kept k,slr_kept q.nodes k fun _ _ _ q => q⟩
theorem new_one {α : Type} {w : Nat} {enc : α → List Value} (hw : 0 < w) (hone : ∀ x,∀ y ∈ enc x,oneCell y = true) {new : List Value} {xs : List α} (e2 : new.length = xs.length * w) (e3 : ∀ (i : Nat) (x : α),xs[i]? = some x → (new.drop (i * w)).take w = enc x) : ∀ y ∈ new,oneCell y = true := by
 intro y hy
 obtain ⟨j,hj⟩ := List.mem_iff_getElem?.1 hy
 have hjl := (List.getElem?_eq_some_iff.1 hj).1
 have hd : j / w < xs.length := by
  rw [Nat.div_lt_iff_lt_mul hw];omega
 obtain ⟨x,hx⟩ : ∃ x,xs[j / w]? = some x := ⟨_,List.getElem?_eq_getElem hd⟩
 refine hone x y ?_
 rw [← e3 _ _ hx]
 refine List.mem_iff_getElem?.2 ⟨j % w,?_⟩
 rw [List.getElem?_take,if_pos (Nat.mod_lt _ hw),List.getElem?_drop,show j / w * w + j % w = j from by rw [Nat.mul_comm];exact Nat.div_add_mod j w]
 exact hj
theorem cloned {α : Type} {w bytes : Nat} {enc : α → List Value} (hw : 0 < w) (hl : ∀ x,(enc x).length = w) (hone : ∀ x,∀ y ∈ enc x,oneCell y = true) {g : H} {ok : Nat → Prop} {v : Value} {xs : List α} (s : SlR ok w (fun _ cs x => cs = enc x) g v xs) (hb : xs.length * bytes ≤ 2 ^ 47) :
  ∃ new v1 g1,srcOf (Ev.newRow g [] w []) w v = some (xs.length,new) ∧ appendTo (Ev.newRow g [] w []) w bytes (.slice (some ⟨g.size,0,none⟩) 0 0) xs.length new = some (v1,g1) ∧ isText v1 = false ∧ (∀ y ∈ new,oneCell y = true) ∧ Kept g g1 [] ∧
   Bld (fun c => g.size ≤ c) w (fun _ cs x => cs = enc x) g1 v1 xs ∧ ∃ a,v1 = .slice a xs.length xs.length := by
 have k0 := rowKept g [] w []
 have s0 := slr_kept s k0 fun _ _ _ q => q
 obtain ⟨new,e1,e2,e3⟩ := s0.src hw fun cs x _ q => by rw [q];exact hl x
 have B0 : Bld (fun b => g.size ≤ b) w (fun _ cs x => cs = enc x) (Ev.newRow g [] w []) (.slice (some ⟨g.size,0,none⟩) 0 0) [] := .inr ⟨g.size,[],[],rfl,⟨Nat.le_refl _,by simp⟩,by simp,by simp,fun i x hx => by simp at hx⟩
 obtain ⟨v1,g1,a1,a2,a3,_,a4,_⟩ := B0.appN (ys := xs) (bytes := bytes) (new := new) e2 (by simpa using hb) (by simp) (fun _ _ _ _ _ q => q) fun _ _ i y hy => e3 i y hy
 have z0 : (Ev.newRow g [] w []).size = g.size + 1 := by simp
 rw [List.nil_append] at a2
 exact ⟨new,v1,g1,e1,a1,a2.sl.ne_text,new_one hw hone e2 e3,⟨by have := a3.1;omega,fun b hb _ => (a4 b (by omega) (fun o n c e => by injection e with e;injection e with e;injection e with e;omega)).trans (k0.get hb (by simp))⟩,a2,by
  rcases a2 with ⟨e,e'⟩ | ⟨b,cs,an,e,_⟩
  ·subst e'
   exact ⟨_,e⟩
  ·exact ⟨_,e⟩⟩
theorem opC_len (o : Opv) : (opC o).length = 5 := rfl
theorem opC_one (o : Opv) : ∀ y ∈ opC o,oneCell y = true := by
 intro y hy
 simp only [opC,List.mem_cons,List.not_mem_nil,or_false] at hy
 rcases hy with rfl | rfl | rfl | rfl | rfl <;> rfl
theorem snC_one (o : Sn) : ∀ y ∈ snC o,oneCell y = true := by
 intro y hy
 simp only [snC,List.mem_cons,List.not_mem_nil,or_false] at hy
 rcases hy with rfl | rfl | rfl <;> rfl
theorem txC_one (o : ByteArray) : ∀ y ∈ [Value.string o],oneCell y = true := by
 intro y hy
 rw [List.mem_singleton] at hy
 subst hy;rfl
theorem inC_one (o : Int) : ∀ y ∈ [vi o],oneCell y = true := by
 intro y hy
 rw [List.mem_singleton] at hy
 subst hy;rfl
end Go.Proofs.YtalamcchkkdelaaGreatDoor
end
section
set_option maxRecDepth 100000
namespace Go.Proofs.YtalamcchkkdelaaGreatDoor
open Go.Ev
variable {F : Nat} {h : H}
theorem in_at {ok : Nat → Prop} {g : H} {v : Value} {xs : List Int} (s : SlR ok 1 IntR g v xs) {i : Nat} {x : Int} (hx : xs[i]? = some x) :
  ∃ b o c cs es lv an,v = .slice (some ⟨b,o,none⟩) xs.length c ∧ hget g b = some (.cells cs es lv an) ∧ o + i + 1 ≤ cs.length ∧ (cs.drop (o + i)).take 1 = [vi x] := by
 obtain ⟨b,o,c,cs,es,lv,an,e,_,hg,hl,hr⟩ := s.at' hx
 rw [Nat.mul_one] at hl hr
 exact ⟨b,o,c,cs,es,lv,an,e,hg,hl,hr⟩
theorem op_at {ok : Nat → Prop} {g : H} {v : Value} {xs : List Opv} (s : SlR ok 5 OpR g v xs) {i : Nat} {x : Opv} (hx : xs[i]? = some x) :
  ∃ b o c cs es lv an,v = .slice (some ⟨b,o,none⟩) xs.length c ∧ hget g b = some (.cells cs es lv an) ∧ o + i * 5 + 5 ≤ cs.length ∧ (cs.drop (o + i * 5)).take 5 = opC x := by
 obtain ⟨b,o,c,cs,es,lv,an,e,_,hg,hl,hr⟩ := s.at' hx
 exact ⟨b,o,c,cs,es,lv,an,e,hg,hl,hr⟩
theorem row_inj {g : H} {b : Nat} {cs cs' : List Value} {es es' : Nat} {lv lv' : Bool} {an an' : List Nat} (h1 : hget g b = some (.cells cs es lv an)) (h2 : hget g b = some (.cells cs' es' lv' an')) : cs' = cs := by
 rw [h1] at h2
 cases h2
 rfl
theorem rising_spec {ok : Nat → Prop} {v : Value} {xs : List Int} (hS : SlR ok 1 IntR h v xs) (hn : xs.length ≤ 2097152) (hF : Big F) : Ans (cf (F + 1) 119 [v] h) (IsB h) := by
 unfold Big at hF
 rw [cf_step (a := a119) rfl rfl (by simp [a119])]
 have ln := hS.len
 have fin : ∀ b : Bool,IsB h (.bool b) h := fun b => ⟨rfl,b,rfl⟩
 simp (disch := first|omega|(simp only [zS];first|done|omega)) [bB,a119,r119_0,r119_1]
 refine loop_rule (fun m e g => ∃ i : Nat,1 ≤ i ∧ m = xs.length - i ∧ g = h ∧ e = [(0,v),(3,vi i)]) ?_ F (xs.length - 1) _ h (by omega) ⟨1,by omega,rfl,rfl,rfl⟩
 rintro m e g again ⟨i,hi,rfl,rfl,rfl⟩ hag
 by_cases hlt : i < xs.length
 ·have hlt' : (i : Int) < xs.length := by omega
  obtain ⟨x,hx⟩ : ∃ x,xs[i]? = some x := ⟨_,List.getElem?_eq_getElem hlt⟩
  obtain ⟨y,hy⟩ : ∃ x,xs[i - 1]? = some x := ⟨_,List.getElem?_eq_getElem (by omega)⟩
  obtain ⟨b,o,cc,cs,es,lv,an,rfl,hg,hl,hr⟩ := in_at hS hx
  obtain ⟨b',o',cc',cs',es',lv',an',e',hg',hl',hr'⟩ := in_at hS hy
  injection e' with q1 q2 q3
  injection q1 with q1
  injection q1 with q1 q4
  subst q1 q4
  obtain rfl := row_inj hg hg'
  have wi : IntKind.i64.wrap ((i : Int) + 1) = (i : Int) + 1 := wrap_in (by omega) (by omega)
  have wm : IntKind.i64.wrap ((i : Int) - 1) = ((i - 1 : Nat) : Int) := by rw [wrap_in (by omega) (by omega)];omega
  have hm1 : ((i - 1 : Nat) : Int) < xs.length := by omega
  by_cases hxy : x ≤ y
  ·simp (disch := first|omega|(simp only [zS];first|done|omega)) [bB,l119_6,r119_2,hlt',d119_3,hg,hl,hr,hg',hl',hr',wm,hm1,hxy,r119_4]
   exact Ans.of (fin _)
  ·simp (disch := first|omega|(simp only [zS];first|done|omega)) [bB,l119_6,r119_2,hlt',d119_3,hg,hl,hr,hg',hl',hr',wm,hm1,hxy,r119_5,wi]
   exact hag (xs.length - (i + 1)) _ _ (by omega) ⟨i + 1,by omega,rfl,rfl,rfl⟩
 ·have hlt' : ¬ (i : Int) < xs.length := by omega
  simp (disch := first|omega|(simp only [zS];first|done|omega)) [bB,l119_6,r119_2,ln,hlt',r119_7]
  exact Ans.of (fin _)
set_option maxHeartbeats 1000000 in
theorem twice_spec {ok : Nat → Prop} {v : Value} {xs : List ByteArray} (hS : SlR ok 1 TxR h v xs) (hn : xs.length ≤ 2097152) (hF : Big F) : Ans (cf (F + 1) 78 [v] h) (IsB h) := by
 unfold Big at hF
 rw [cf_step (a := a78) rfl rfl (by simp [a78])]
 have ln := hS.len
 have fin : ∀ b : Bool,IsB h (.bool b) h := fun b => ⟨rfl,b,rfl⟩
 simp (disch := first|omega|(simp only [zS];first|done|omega)) [bB,a78,r78_0,r78_1]
 refine loop_rule (fun m e g => ∃ i : Nat,i ≤ xs.length ∧ m = xs.length - i ∧ g = h ∧ e = [(0,v),(3,vi i)]) ?_ F (xs.length - 0) _ h (by omega) ⟨0,by omega,rfl,rfl,rfl⟩
 rintro m e g again ⟨i,hi,rfl,rfl,rfl⟩ hag
 by_cases hlt : i < xs.length
 ·have hlt' : (i : Int) < xs.length := by omega
  obtain ⟨x,hx⟩ : ∃ x,xs[i]? = some x := ⟨_,List.getElem?_eq_getElem hlt⟩
  obtain ⟨b,o,cc,cs,es,lv,an,rfl,hg,hl,hr⟩ := tx_at hS hx
  have wi : IntKind.i64.wrap ((i : Int) + 1) = (i : Int) + 1 := wrap_in (by omega) (by omega)
  simp (disch := first|omega|(simp only [zS];first|done|omega)) [bB,l78_10,r78_2,hlt',r78_3]
  refine loop_rule (fun m e g' => ∃ k : Nat,k ≤ i ∧ m = i - k ∧ g' = g ∧ e = [(0,.slice (some ⟨b,o,none⟩) xs.length cc),(3,vi i),(4,vi k)]) ?_ F (i - 0) _ g (by omega) ⟨0,by omega,rfl,rfl,rfl⟩
  rintro m e g' again' ⟨k,hk,rfl,rfl,rfl⟩ hag'
  by_cases hki : k < i
  ·have hki' : (k : Int) < i := by omega
   have hkl' : (k : Int) < xs.length := by omega
   obtain ⟨y,hy⟩ : ∃ x,xs[k]? = some x := ⟨_,List.getElem?_eq_getElem (by omega)⟩
   obtain ⟨b',o',cc',cs',es',lv',an',e',hg',hl',hr'⟩ := tx_at hS hy
   injection e' with q1 q2 q3
   injection q1 with q1
   injection q1 with q1 q4
   subst q1 q4
   obtain rfl := row_inj hg hg'
   have wk : IntKind.i64.wrap ((k : Int) + 1) = (k : Int) + 1 := wrap_in (by omega) (by omega)
   cases hxy : (x == y) with
   | true =>
    simp (disch := first|omega|(simp only [zS];first|done|omega)) [bB,l78_8,r78_4,hki',d78_5,hlt',hg,hl,hr,hkl',hg',hl',hr',hxy,r78_6]
    exact Ans.of (fin _)
   | false =>
    simp (disch := first|omega|(simp only [zS];first|done|omega)) [bB,l78_8,r78_4,hki',d78_5,hlt',hg,hl,hr,hkl',hg',hl',hr',hxy,r78_7,wk]
    exact hag' (i - (k + 1)) _ _ (by omega) ⟨k + 1,hki,rfl,rfl,rfl⟩
  ·have : k = i := by omega
   subst this
   simp (disch := first|omega|(simp only [zS];first|done|omega)) [bB,l78_8,r78_4,r78_9,wi]
   exact hag (xs.length - (k + 1)) _ _ (by omega) ⟨k + 1,hlt,rfl,rfl,rfl⟩
 ·have : i = xs.length := by omega
  subst this
  simp (disch := first|omega|(simp only [zS];first|done|omega)) [bB,l78_10,r78_2,ln,r78_11]
  exact Ans.of (fin _)
def IsT (h : H) (v : Value) (h' : H) : Prop := h' = h ∧ v = .bool true
theorem sameTexts_spec {ok ok' : Nat → Prop} {v w : Value} {xs : List ByteArray} (hS : SlR ok 1 TxR h v xs) (hT : SlR ok' 1 TxR h w xs) (hn : xs.length ≤ 2097152) (hF : Big F) : Ans (cf (F + 1) 29 [v,w] h) (IsT h) := by
 unfold Big at hF
 rw [cf_step (a := a29) rfl rfl (by simp [a29])]
 have ln := hS.len
 have ln' := hT.len
 simp (disch := first|omega|(simp only [zS];first|done|omega)) [bB,a29,r29_0,r29_1,ln,ln',r29_3]
 refine loop_rule (fun m e g => ∃ i : Nat,i ≤ xs.length ∧ m = xs.length - i ∧ g = h ∧ e = [(0,v),(1,w),(5,vi i)]) ?_ F (xs.length - 0) _ h (by omega) ⟨0,by omega,rfl,rfl,rfl⟩
 rintro m e g again ⟨i,hi,rfl,rfl,rfl⟩ hag
 by_cases hlt : i < xs.length
 ·have hlt' : (i : Int) < xs.length := by omega
  obtain ⟨x,hx⟩ : ∃ x,xs[i]? = some x := ⟨_,List.getElem?_eq_getElem hlt⟩
  obtain ⟨b,o,cc,cs,es,lv,an,rfl,hg,hl,hr⟩ := tx_at hS hx
  obtain ⟨b',o',cc',cs',es',lv',an',rfl,hg',hl',hr'⟩ := tx_at hT hx
  have wi : IntKind.i64.wrap ((i : Int) + 1) = (i : Int) + 1 := wrap_in (by omega) (by omega)
  simp (disch := first|omega|(simp only [zS];first|done|omega)) [bB,l29_8,r29_4,hlt',d29_5,hg,hl,hr,hg',hl',hr',ba_nself,r29_7,wi]
  exact hag (xs.length - (i + 1)) _ _ (by omega) ⟨i + 1,hlt,rfl,rfl,rfl⟩
 ·have : i = xs.length := by omega
  subst this
  simp (disch := first|omega|(simp only [zS];first|done|omega)) [bB,l29_8,r29_4,ln,r29_9]
  exact Ans.of ⟨rfl,rfl⟩
theorem sameOps_spec {ok ok' : Nat → Prop} {v w : Value} {xs : List Opv} (hS : SlR ok 5 OpR h v xs) (hT : SlR ok' 5 OpR h w xs) (hn : xs.length ≤ 2097152) (hF : Big F) : Ans (cf (F + 1) 79 [v,w] h) (IsT h) := by
 unfold Big at hF
 rw [cf_step (a := a79) rfl rfl (by simp [a79])]
 have ln := hS.len
 have ln' := hT.len
 simp (disch := first|omega|(simp only [zS];first|done|omega)) [bB,a79,r79_0,r79_1,ln,ln',r79_3]
 refine loop_rule (fun m e g => ∃ i : Nat,i ≤ xs.length ∧ m = xs.length - i ∧ g = h ∧ e = [(0,v),(1,w),(5,vi i)]) ?_ F (xs.length - 0) _ h (by omega) ⟨0,by omega,rfl,rfl,rfl⟩
 rintro m e g again ⟨i,hi,rfl,rfl,rfl⟩ hag
 by_cases hlt : i < xs.length
 ·have hlt' : (i : Int) < xs.length := by omega
  obtain ⟨x,hx⟩ : ∃ x,xs[i]? = some x := ⟨_,List.getElem?_eq_getElem hlt⟩
  obtain ⟨b,o,cc,cs,es,lv,an,rfl,hg,hl,hr⟩ := op_at hS hx
  obtain ⟨b',o',cc',cs',es',lv',an',rfl,hg',hl',hr'⟩ := op_at hT hx
  have wi : IntKind.i64.wrap ((i : Int) + 1) = (i : Int) + 1 := wrap_in (by omega) (by omega)
  simp (disch := first|omega|(simp only [zS];first|done|omega)) [bB,l79_8,r79_4,hlt',d79_5,hg,hl,hr,hg',hl',hr',opC,ba_self,r79_7,wi]
  exact hag (xs.length - (i + 1)) _ _ (by omega) ⟨i + 1,hlt,rfl,rfl,rfl⟩
 ·have : i = xs.length := by omega
  subst this
  simp (disch := first|omega|(simp only [zS];first|done|omega)) [bB,l79_8,r79_4,ln,r79_9]
  exact Ans.of ⟨rfl,rfl⟩
end Go.Proofs.YtalamcchkkdelaaGreatDoor
end
section
set_option maxRecDepth 100000
namespace Go.Proofs.YtalamcchkkdelaaGreatDoor
open Go.Ev
variable {F : Nat} {h : H}
theorem take_sub {cs l : List Value} {o n : Nat} (e : (cs.drop o).take n = l) (k m : Nat) (hm : k + m ≤ n) : (cs.drop (o + k)).take m = (l.drop k).take m := by
 rw [← e,List.drop_take,List.take_take,List.drop_drop,Nat.min_eq_left (by omega)]
theorem pt_at {g : H} {v : Value} {xs : List Pt} (s : SlR T 5 PtR g v xs) {i : Nat} {x : Pt} (hx : xs[i]? = some x) :
  ∃ b o c cs es lv an nv,v = .slice (some ⟨b,o,none⟩) xs.length c ∧ hget g b = some (.cells cs es lv an) ∧ o + i * 5 + 5 ≤ cs.length ∧ (cs.drop (o + i * 5)).take 5 = ptC x nv ∧ SlR T 3 SnR g nv x.nodes := by
 obtain ⟨b,o,c,cs,es,lv,an,e,_,hg,hl,nv,hr,hn⟩ := s.at' hx
 exact ⟨b,o,c,cs,es,lv,an,nv,e,hg,hl,hr,hn⟩
theorem cg_at {g : H} {v : Value} {xs : List Cg} (s : SlR T 5 CgR g v xs) {i : Nat} {x : Cg} (hx : xs[i]? = some x) :
  ∃ b o c cs es lv an nv,v = .slice (some ⟨b,o,none⟩) xs.length c ∧ hget g b = some (.cells cs es lv an) ∧ o + i * 5 + 5 ≤ cs.length ∧ (cs.drop (o + i * 5)).take 5 = cgC x nv ∧ SlR T 1 IntR g nv x.tags := by
 obtain ⟨b,o,c,cs,es,lv,an,e,_,hg,hl,nv,hr,hn⟩ := s.at' hx
 exact ⟨b,o,c,cs,es,lv,an,nv,e,hg,hl,hr,hn⟩
theorem rz_at {g : H} {v : Value} {xs : List Rz} (s : SlR T 7 RzR g v xs) {i : Nat} {x : Rz} (hx : xs[i]? = some x) :
  ∃ b o c cs es lv an nv,v = .slice (some ⟨b,o,none⟩) xs.length c ∧ hget g b = some (.cells cs es lv an) ∧ o + i * 7 + 7 ≤ cs.length ∧ (cs.drop (o + i * 7)).take 7 = rzC x nv ∧ SlR T 1 TxR g nv x.kids := by
 obtain ⟨b,o,c,cs,es,lv,an,e,_,hg,hl,nv,hr,hn⟩ := s.at' hx
 exact ⟨b,o,c,cs,es,lv,an,nv,e,hg,hl,hr,hn⟩
set_option maxHeartbeats 2000000 in
theorem orderly_spec {vc vp : Value} {xs : List Cg} {ys : List Pt} (i0 i1 : Int) (mark : Bool) (hC : SlR T 5 CgR h vc xs) (hP : SlR T 5 PtR h vp ys) (hc : xs.length ≤ 2097152) (ht : ∀ c ∈ xs,c.tags.length ≤ 2097152)
  (hp : ys.length ≤ 2097152) (hn : ∀ p ∈ ys,p.nodes.length ≤ 2097152 ∧ ∀ n ∈ p.nodes,slen n.place ≤ 140737488355328) (hF : Big F) : Ans (cf (F + 7) 77 [.agg ⟨[vi i0,vi i1,.bool mark,vc,vp]⟩] h) (BoV h) := by
 rw [cf_step (a := a77) rfl rfl (by simp [a77])]
 have e1 := fun (g : H) (ok : Nat → Prop) (nv : Value) (ns : List Sn) (st kd : Int) (pl : ByteArray) (hS : SlR ok 3 SnR g nv ns) (hP : ∀ x ∈ ns,slen x.place ≤ 140737488355328) => check_spec (F := F) (h := g) st kd pl hS hP hF
 have e2 := fun (g : H) (ok : Nat → Prop) (v : Value) (l : List Int) (hS : SlR ok 1 IntR g v l) (hn : l.length ≤ 2097152) => rising_spec (F := F + 5) (h := g) hS hn (hF.w 5)
 unfold Big at hF
 generalize cf (F + 6) = c at *
 have lc := hC.len
 have lp := hP.len
 have k1 := rowKept h [vi i0,vi i1,.bool mark,vc,vp] 0 []
 have hB : hget (Ev.newRow h [vi i0,vi i1,.bool mark,vc,vp] 0 []) h.size = some (.cells [vi i0,vi i1,.bool mark,vc,vp] 0 true []) := by simp
 have hz : h.size < (Ev.newRow h [vi i0,vi i1,.bool mark,vc,vp] 0 []).size := by simp
 simp (disch := first|omega|(simp only [zS];first|done|omega)) [bB,a77,r77_0,r77_1,r77_2]
 generalize Ev.newRow h [vi i0,vi i1,.bool mark,vc,vp] 0 [] = g1 at *
 have out : ∀ (b : Bool) (g : H),Kept h g [] → Ans (some (.bool b,g)) (BoV h) := fun n g k => Ans.of ⟨k,n,rfl⟩
 refine loop_rule (fun m e g => ∃ (i : Nat) (iv : Value) (ids : List Int),i ≤ ys.length ∧ m = ys.length - i ∧ Kept g1 g [] ∧ e = [(1,.pointer (some ⟨h.size,0,none⟩)),(3,iv),(4,vi i)] ∧ Bld (fun b => g1.size ≤ b) 1 IntR g iv ids ∧ ids.length = i) ?_ (F + 6) (ys.length - 0) _ g1 (by omega) ⟨0,_,[],by omega,rfl,Kept.refl _ _,rfl,Bld.nil _ _ _ _,rfl⟩
 rintro m e g again ⟨i,iv,ids,hi,rfl,kg,rfl,hI,hil⟩ hag
 have hBg := (kg.get (b := h.size) hz (by simp)).trans hB
 have kh := k1.trans kg
 by_cases hlt : i < ys.length
 ·have hlt' : (i : Int) < ys.length := by omega
  obtain ⟨x,hx⟩ : ∃ x,ys[i]? = some x := ⟨_,List.getElem?_eq_getElem hlt⟩
  obtain ⟨b,o,cc,cs,es,lv,an,nv,rfl,hg0,hl,hr,hN0⟩ := pt_at hP hx
  have hg := (kh.get (b := b) (lt_of_get hg0) (by simp)).trans hg0
  have wi : IntKind.i64.wrap ((i : Int) + 1) = ((i + 1 : Nat) : Int) := by rw [wrap_in (by omega) (by omega)];omega
  have h1 := take1_of (show (cs.drop (o + i * 5)).take (4 + 1) = _ from hr)
  have h2 := take_sub hr 1 4 (by decide)
  have hl1 : o + i * 5 + 1 ≤ cs.length := by omega
  have hl2 : o + i * 5 + 1 + 4 ≤ cs.length := by omega
  obtain ⟨v',g',c1,c2,c3⟩ := put_new hI kg (bytes := 8) [vi x.id] (x := x.id) rfl (by omega) (fun _ _ _ _ _ _ q => q) (fun _ _ => rfl)
  simp only [ptC,List.drop_succ_cons,List.drop_zero,List.take_succ_cons,List.take_zero,List.take_nil] at h2
  have kh' := k1.trans c3
  have hg' := (kh'.get (b := b) (lt_of_get hg0) (by simp)).trans hg0
  have hB' := (c3.get (b := h.size) hz (by simp)).trans hB
  simp (disch := first|omega|(simp only [zS];first|done|omega)) [bB,l77_8,r77_3,hBg,lp,hlt',r77_4,hg,hl1,h1,srcOf,isText,c1]
  simp (disch := first|omega|(simp only [zS];first|done|omega)) [bB,r77_5,hB',hlt',hg',hl2,h2]
  refine Ans.nextC (e1 _ _ _ x.nodes _ _ _ (slr_kept hN0 kh' fun _ _ _ q => q) (hn x (List.mem_of_getElem? hx)).2) ?_
  rintro v g2 ⟨k2,n,rfl⟩
  by_cases hn0 : n = 0
  ·simp (disch := first|omega|(simp only [zS];first|done|omega)) [bB,hn0,r77_7,wi]
   exact hag (ys.length - (i + 1)) _ _ (by omega) ⟨i + 1,_,_,hlt,rfl,c3.trans k2,rfl,c2.frame k2 (fun _ _ q => q),by simp [hil]⟩
  ·simp (disch := first|omega|(simp only [zS];first|done|omega)) [bB,hn0,r77_6]
   exact out _ _ (kh'.trans k2)
 ·have hie : i = ys.length := by omega
  have ll := hI.sl.len
  rw [hil] at ll
  simp (disch := first|omega|(simp only [zS];first|done|omega)) [bB,l77_8,r77_3,hBg,lp,hie,r77_9]
  refine loop_rule (fun m e g' => ∃ i : Nat,i ≤ xs.length ∧ m = xs.length - i ∧ g' = g ∧ e = [(1,.pointer (some ⟨h.size,0,none⟩)),(3,iv),(5,vi i)]) ?_ (F + 6) (xs.length - 0) _ g (by omega) ⟨0,by omega,rfl,rfl,rfl⟩
  rintro m e g' again' ⟨k,hk,rfl,rfl,rfl⟩ hag'
  by_cases hkl : k < xs.length
  ·have hkl' : (k : Int) < xs.length := by omega
   obtain ⟨x,hx⟩ : ∃ x,xs[k]? = some x := ⟨_,List.getElem?_eq_getElem hkl⟩
   obtain ⟨b,o,cc,cs,es,lv,an,nv,rfl,hg0,hl,hr,hN0⟩ := cg_at hC hx
   have hg := (kh.get (b := b) (lt_of_get hg0) (by simp)).trans hg0
   have wk : IntKind.i64.wrap ((k : Int) + 1) = ((k + 1 : Nat) : Int) := by rw [wrap_in (by omega) (by omega)];omega
   have h2 := take_sub hr 4 1 (by decide)
   have hl2 : o + k * 5 + 4 + 1 ≤ cs.length := by omega
   simp only [cgC,List.drop_succ_cons,List.drop_zero,List.take_succ_cons,List.take_zero,List.take_nil] at h2
   simp (disch := first|omega|(simp only [zS];first|done|omega)) [bB,l77_15,r77_10,hBg,hkl',r77_11,hg,hl2,h2]
   refine Ans.nextC (e2 _ _ _ _ (slr_kept hN0 kh fun _ _ _ q => q) (ht x (List.mem_of_getElem? hx))) ?_
   rintro v g2 ⟨rfl,bb,rfl⟩
   cases bb with
   | true =>
    simp (disch := first|omega|(simp only [zS];first|done|omega)) [bB,r77_12,aUn,r77_14,wk]
    exact hag' (xs.length - (k + 1)) _ _ (by omega) ⟨k + 1,hkl,rfl,rfl,rfl⟩
   | false =>
    simp (disch := first|omega|(simp only [zS];first|done|omega)) [bB,r77_12,aUn,r77_13]
    exact out _ _ kh
  ·have hke : k = xs.length := by omega
   subst hke
   cases mark with
   | false =>
    simp (disch := first|omega|(simp only [zS];first|done|omega)) [bB,l77_15,r77_10,hBg,lc,r77_16,r77_18,lp]
    exact out _ _ kh
   | true =>
    by_cases hx0 : xs.length = 0
    ·have hx0' : (xs.length : Int) = 0 := by omega
     simp (disch := first|omega|(simp only [zS];first|done|omega)) [bB,l77_15,r77_10,hBg,lc,r77_16,r77_17,hx0']
     refine Ans.nextC (e2 _ _ _ _ hI.sl (by omega)) ?_
     rintro v g2 ⟨rfl,bb,rfl⟩
     simp (disch := first|omega|(simp only [zS];first|done|omega)) [bB]
     exact out _ _ kh
    ·have hx0' : ¬ (xs.length : Int) = 0 := by omega
     simp (disch := first|omega|(simp only [zS];first|done|omega)) [bB,l77_15,r77_10,hBg,lc,r77_16,r77_17,hx0']
     exact out _ _ kh
end Go.Proofs.YtalamcchkkdelaaGreatDoor
end
section
set_option maxRecDepth 100000
namespace Go.Proofs.YtalamcchkkdelaaGreatDoor
open Go.Ev
variable {F : Nat} {h : H}
theorem mem_of_get {α : Type} {l : List α} {i : Nat} {x : α} (h : l[i]? = some x) : x ∈ l := List.mem_of_getElem? h
set_option maxHeartbeats 2000000 in
theorem lawful_spec {vo vr vc vp vn : Value} {t : Td} (hR : TdR h t vo vr vc vp vn) (hB : TdB t) (hF : Big F) : Ans (cf (F + 8) 36 [.agg ⟨tdC t vo vr vc vp vn⟩] h) (BoV h) := by
 rw [cf_step (a := a36) rfl rfl (by simp [a36])]
 have e1 := fun (g : H) (ok : Nat → Prop) (nv : Value) (ns : List Sn) (st kd : Int) (pl : ByteArray) (hS : SlR ok 3 SnR g nv ns) (hP : ∀ x ∈ ns,slen x.place ≤ 140737488355328) => check_spec (F := F + 1) (h := g) st kd pl hS hP (hF.w 1)
 have e2 := fun (g : H) (k : Kept h g []) => orderly_spec (F := F) (h := g) t.i0 t.i1 t.mark (hR.kept k).changes (hR.kept k).parts hB.changes hB.tags hB.parts hB.pnodes hF
 have e3 := fun (g : H) (ok : Nat → Prop) (v : Value) (l : List ByteArray) (hS : SlR ok 1 TxR g v l) (hn : l.length ≤ 2097152) => twice_spec (F := F + 6) (h := g) hS hn (hF.w 6)
 have q7 : F + 1 + 6 = F + 7 := by omega
 rw [q7] at e1
 unfold Big at hF
 generalize cf (F + 7) = c at *
 have lr := hR.results.len
 have k1 := rowKept h (tdC t vo vr vc vp vn) 0 []
 have hbx : hget (Ev.newRow h (tdC t vo vr vc vp vn) 0 []) h.size = some (.cells (tdC t vo vr vc vp vn) 0 true []) := by simp
 simp (disch := first|omega|(simp only [zS];first|done|omega)) [bB,a36,r36_0]
 generalize Ev.newRow h (tdC t vo vr vc vp vn) 0 [] = g1 at *
 simp only [tdC] at hbx
 have out : ∀ (b : Bool) (g : H),Kept h g [] → Ans (some (.bool b,g)) (BoV h) := fun n g k => Ans.of ⟨k,n,rfl⟩
 by_cases h4 : t.kind = 4
 ·by_cases hc0 : t.code = 0
  ·simp (disch := first|omega|(simp only [zS];first|done|omega)) [bB,r36_1,hbx,r36_2,h4,r36_3,hc0]
   refine Ans.nextC (e1 _ _ _ _ _ _ _ (hR.kept k1).nodes hB.nodes.2) ?_
   rintro v g2 ⟨k2,n,rfl⟩
   simp (disch := first|omega|(simp only [zS];first|done|omega)) [bB]
   exact out _ _ (k1.trans k2)
  ·simp (disch := first|omega|(simp only [zS];first|done|omega)) [bB,r36_1,hbx,r36_2,h4,r36_3,hc0]
   exact out _ _ k1
 by_cases h5 : t.kind = 5
 ·simp (disch := first|omega|(simp only [zS];first|done|omega)) [bB,r36_1,hbx,r36_2,h4,r36_4,h5,r36_5]
  refine Ans.nextC (e2 _ k1) ?_
  rintro v g2 ⟨k2,n,rfl⟩
  simp (disch := first|omega|(simp only [zS];first|done|omega)) [bB]
  exact out _ _ (k1.trans k2)
 by_cases h2 : t.kind = 2
 ·simp (disch := first|omega|(simp only [zS];first|done|omega)) [bB,r36_1,hbx,r36_2,h4,r36_4,h5,r36_6,h2,r36_7]
  refine loop_rule (fun m e g' => ∃ i : Nat,i ≤ t.results.length ∧ m = t.results.length - i ∧ g' = g1 ∧ e = [(1,.pointer (some ⟨h.size,0,none⟩)),(3,vi i)]) ?_ (F + 7) (t.results.length - 0) _ g1 (by have := hB.results;omega) ⟨0,by omega,rfl,rfl,rfl⟩
  rintro m e g' again' ⟨k,hk,rfl,rfl,rfl⟩ hag'
  by_cases hkl : k < t.results.length
  ·have hkl' : (k : Int) < t.results.length := by omega
   obtain ⟨x,hx⟩ : ∃ x,t.results[k]? = some x := ⟨_,List.getElem?_eq_getElem hkl⟩
   have hRk := (hR.kept k1).results
   generalize hvr : vr = vr' at *
   obtain ⟨b,o,cc,cs,es,lv,an,nv,rfl,hg,hl,hr,hN0⟩ := rz_at hRk hx
   have wk : IntKind.i64.wrap ((k : Int) + 1) = ((k + 1 : Nat) : Int) := by rw [wrap_in (by have := hB.results;omega) (by have := hB.results;omega)];omega
   have h2 := take_sub hr 6 1 (by decide)
   have hl2 : o + k * 7 + 6 + 1 ≤ cs.length := by omega
   simp only [rzC,List.drop_succ_cons,List.drop_zero,List.take_succ_cons,List.take_zero,List.take_nil] at h2
   simp (disch := first|omega|(simp only [zS];first|done|omega)) [bB,l36_13,r36_8,hbx,hkl',r36_9,hg,hl2,h2]
   refine Ans.nextC (e3 _ _ _ _ hN0 (hB.kids x (mem_of_get hx))) ?_
   rintro v g2 ⟨rfl,bb,rfl⟩
   cases bb with
   | true =>
    simp (disch := first|omega|(simp only [zS];first|done|omega)) [bB,r36_10,r36_11]
    exact out _ _ k1
   | false =>
    simp (disch := first|omega|(simp only [zS];first|done|omega)) [bB,r36_10,r36_12,wk]
    exact hag' (t.results.length - (k + 1)) _ _ (by omega) ⟨k + 1,hkl,rfl,rfl,rfl⟩
  ·have hke : k = t.results.length := by omega
   subst hke
   simp (disch := first|omega|(simp only [zS];first|done|omega)) [bB,l36_13,r36_8,hbx,lr,r36_14]
   exact out _ _ k1
 ·simp (disch := first|omega|(simp only [zS];first|done|omega)) [bB,r36_1,hbx,r36_2,h4,r36_4,h5,r36_6,h2,r36_14]
  exact out _ _ k1
end Go.Proofs.YtalamcchkkdelaaGreatDoor
end
namespace Go.Proofs.YtalamcchkkdelaaGreatDoor
open Go.Ev
abbrev Pl {β : Type} (ei : β → List Value) : H → List Value → β → Prop := fun _ cs y => cs = ei y
def El {α β : Type} (enc : α → Value → List Value) (inner : α → List β) (wi : Nat) (ei : β → List Value) (κ : Kp) (h : H) (cs : List Value) (x : α × Col) : Prop := ∃ v,cs = enc x.1 v ∧ Bld (fun c => κ c = x.2) wi (Pl ei) h v (inner x.1)
def elw {α : Type} (f : Nat → Col) (l : List α) : List (α × Col) := l.mapIdx fun k x => (x,f k)
section
variable {α β : Type} {enc : α → Value → List Value} {inner : α → List β} {w wi : Nat} {ei : β → List Value} {κ κ' : Kp} {S : Col → Prop} {g g' : H} {f : Nat → Col} {C : Col}
theorem elw_len (l : List α) : (elw f l).length = l.length := by simp [elw]
theorem elw_get (l : List α) (i : Nat) : (elw f l)[i]? = l[i]?.map fun x => (x,f i) := by simp [elw]
theorem elw_snoc (l : List α) (x : α) : elw f (l ++ [x]) = elw f l ++ [(x,f l.length)] := by simp [elw,List.mapIdx_append]
theorem El.tr {cs : List Value} {x : α × Col} (s : El enc inner wi ei κ g cs x) (k : Ch κ S g g') (hS : ¬ S x.2) (hk : Agr g.size κ κ') : El enc inner wi ei κ' g' cs x := by
 obtain ⟨v,e,q⟩ := s
 exact ⟨v,e,q.tr k hS hk fun _ _ _ _ q => q⟩
theorem nest_tr {lv : Value} {l : List α} (s : Bld (fun c => κ c = C) w (El enc inner wi ei κ) g lv (elw f l)) (k : Ch κ S g g') (hC : ¬ S C) (hf : ∀ i,¬ S (f i)) (hk : Agr g.size κ κ') : Bld (fun c => κ' c = C) w (El enc inner wi ei κ') g' lv (elw f l) :=
 s.tr k hC hk fun cs j y hy q => q.tr k (by
  rw [elw_get] at hy
  obtain ⟨z,_,rfl⟩ := Option.map_eq_some_iff.1 hy
  exact hf j) hk
theorem nest_step {l : List α} {i : Nat} {x : α} {lv ov v1 : Value} {g2 : H} {bytes : Nat} (hB : Bld (fun c => κ c = C) w (El enc inner wi ei κ) g lv (elw f (l.take i))) (hx : l[i]? = some x)
  (a5 : Kept (Ev.newRow g (enc x ov) 0 []) g2 []) (a6 : Bld (fun c => (Ev.newRow g (enc x ov) 0 []).size ≤ c) wi (Pl ei) g2 v1 (inner x)) (hf : ∀ k,f k ≠ C) (hw : (enc x v1).length = w) (hb : (i + 1) * bytes ≤ 2 ^ 47) :
  ∃ v5 g5 κ',appendTo (Ev.newRow (g2.setIfInBounds g.size (.cells (enc x v1) 0 true [])) (enc x v1) w []) w bytes lv 1 (enc x v1) = some (v5,g5) ∧ Agr g.size κ κ' ∧ Ch κ (· = C) g g5 ∧
   Bld (fun c => κ' c = C) w (El enc inner wi ei κ') g5 v5 (elw f (l.take (i + 1))) := by
 have hi := (List.getElem?_eq_some_iff.1 hx).1
 have kb := rowKept g (enc x ov) 0 []
 have z1 : (Ev.newRow g (enc x ov) 0 []).size = g.size + 1 := by simp
 have k3 : Kept g (g2.setIfInBounds g.size (.cells (enc x v1) 0 true [])) [] := kept_set (kb.trans a5) (Nat.le_refl _)
 have kset : Kept g2 (g2.setIfInBounds g.size (.cells (enc x v1) 0 true [])) [g.size] := ⟨by simp,fun c hc hn => set_other (fun e => hn (by simp [e]))⟩
 have a7 := a6.kept kset (by simp) fun _ _ _ q => q
 generalize g2.setIfInBounds g.size (.cells (enc x v1) 0 true []) = g3 at *
 have hs3 := k3.1
 have ag1 : Agr g.size κ (ext κ g.size (f i)) := Agr.ext (Nat.le_refl _)
 have a8 : Bld (fun c => ext κ g.size (f i) c = f i) wi (Pl ei) g3 v1 (inner x) := a7.imp fun c _ q => ext_ge (by omega)
 have hB3 : Bld (fun c => ext κ g.size (f i) c = C) w (El enc inner wi ei (ext κ g.size (f i))) g3 lv (elw f (l.take i)) := nest_tr hB (Ch.of k3 (S := no)) (fun q => q) (fun _ q => q) ag1
 generalize ext κ g.size (f i) = κ2 at *
 have ag3 : Agr g3.size κ2 (ext κ2 g3.size C) := Agr.ext (Nat.le_refl _)
 have hl : (l.take i).length = i := by rw [List.length_take];omega
 obtain ⟨v5,g5,c1,c2,c3,c4⟩ := hB3.appC (R2 := El enc inner wi ei (ext κ2 g3.size C)) (bytes := bytes) (new := enc x v1) (x,f i) hw (by rw [elw_len,hl];exact hb)
  (fun h' k cs j y hy q => q.tr k (by
    rw [elw_get] at hy
    obtain ⟨z,_,rfl⟩ := Option.map_eq_some_iff.1 hy
    exact hf j) ag3)
  fun h' k => ⟨v1,rfl,a8.tr k (hf i) ag3 fun _ _ _ _ q => q⟩
 refine ⟨v5,g5,_,c1,ag1.trans ag3 hs3,⟨Nat.le_trans hs3 c3.1,fun c hc hn => ?_⟩,?_⟩
 ·rw [c3.2 c (Nat.lt_of_lt_of_le hc hs3) (by rw [ag1 c hc];exact hn)]
  exact k3.2 c hc (by simp)
 ·have hti : l.take (i + 1) = l.take i ++ [x] := by rw [List.take_add_one,hx];rfl
  rw [hti,elw_snoc,hl]
  exact c2
theorem nest_at {lv : Value} {l : List α} (s : Bld (fun c => κ c = C) w (El enc inner wi ei κ) g lv (elw f l)) {i : Nat} {x : α} (hx : l[i]? = some x) :
  ∃ b cs an v,lv = .slice (some ⟨b,0,none⟩) l.length l.length ∧ κ b = C ∧ hget g b = some (.cells cs w true an) ∧ i * w + w ≤ cs.length ∧ (cs.drop (i * w)).take w = enc x v ∧ Bld (fun c => κ c = f i) wi (Pl ei) g v (inner x) := by
 have hil := (List.getElem?_eq_some_iff.1 hx).1
 rcases s with ⟨_,e'⟩ | ⟨b,cs,an,e,⟨hk,ha⟩,hg,hl,hi⟩
 ·have := congrArg List.length e'
  rw [elw_len] at this
  simp at this
  subst this
  simp at hil
 ·rw [elw_len] at e hl
  have h1 : (i + 1) * w ≤ l.length * w := Nat.mul_le_mul_right _ hil
  rw [Nat.add_mul] at h1
  obtain ⟨v,q1,q2⟩ := hi i (x,f i) (by rw [elw_get,hx];rfl)
  exact ⟨b,cs,an,v,e,hk,hg,by omega,q1,q2⟩
theorem nest_sl {lv : Value} {l : List α} {R : H → List Value → α → Prop} (hR : ∀ cs v x,cs = enc x v → SlR T wi (Pl ei) g v (inner x) → R g cs x) (s : Bld (fun c => κ c = C) w (El enc inner wi ei κ) g lv (elw f l)) : SlR T w R g lv l := by
 by_cases hz : l.length = 0
 ·have hl : l = [] := List.length_eq_zero_iff.1 hz
  subst hl
  rcases s with ⟨e,_⟩ | ⟨b,cs,an,e,⟨hk,ha⟩,hg,hl,hi⟩
  ·exact .inl ⟨.inl e,rfl⟩
  ·exact .inr ⟨b,0,0,cs,e,Nat.le_refl _,trivial,cel_of hg,fun i x hx => by simp at hx⟩
 ·have h0 : l[0]? = some l[0] := List.getElem?_eq_getElem (by omega)
  obtain ⟨b,cs,an,v,e,hk,hg,_,_,_⟩ := nest_at s h0
  refine .inr ⟨b,0,_,cs,e,Nat.le_refl _,trivial,cel_of hg,fun i x hx => ?_⟩
  obtain ⟨b',cs',an',v',e',hk',hg',hl',hr',hb'⟩ := nest_at s hx
  rw [e] at e'
  injection e' with e1
  injection e1 with e1
  injection e1 with e1
  subst e1
  obtain rfl := row_inj hg hg'
  rw [Nat.zero_add]
  exact ⟨hl',hR _ v' x hr' (hb'.sl.imp (fun _ _ _ => trivial) (fun _ _ _ q => q) fun _ _ _ q => q)⟩
end
end Go.Proofs.YtalamcchkkdelaaGreatDoor
section
set_option maxRecDepth 100000
namespace Go.Proofs.YtalamcchkkdelaaGreatDoor
open Go.Ev
variable {F : Nat} {h : H}
abbrev RzB (κ : Kp) (g : H) (v : Value) (l : List Rz) : Prop := Bld (fun c => κ c = 2) 7 (El rzC Rz.kids 1 (fun s => [Value.string s]) κ) g v (elw (fun k => 6 + 3 * k) l)
abbrev CgB (κ : Kp) (g : H) (v : Value) (l : List Cg) : Prop := Bld (fun c => κ c = 4) 5 (El cgC Cg.tags 1 (fun n => [vi n]) κ) g v (elw (fun k => 7 + 3 * k) l)
abbrev PtB (κ : Kp) (g : H) (v : Value) (l : List Pt) : Prop := Bld (fun c => κ c = 5) 5 (El ptC Pt.nodes 3 snC κ) g v (elw (fun k => 8 + 3 * k) l)
theorem ch_kept {κ : Kp} {C : Col} {g g' : H} (k : Kept h g []) (hκ : ∀ c,c < h.size → κ c = 0) (hC : C ≠ 0) (q : Ch κ (· = C) g g') : Kept h g' [] :=
 ⟨Nat.le_trans k.1 q.1,fun b hb _ => (q.2 b (Nat.lt_of_lt_of_le hb k.1) (by rw [hκ b hb];exact fun e => hC e.symm)).trans (k.2 b hb (by simp))⟩
set_option maxHeartbeats 2000000 in
theorem twR {G : Nat} {cx : Cx} {κ : Kp} {g : H} {tb rb : Nat} {t : Td} {vo vr vc vp vn : Value} {kn kr : K} {ke : Nat → K} {Q : Value → H → Prop}
  (hκ : ∀ c,c < h.size → κ c = 0) (hk : Kept h g []) (hT : hget g tb = some (.cells (tdC t vo vr vc vp vn) 0 true [])) (hκt : κ tb = 0) (hS : SlR T 7 RzR h vr t.results) (hB : TdB t) (hG : 4194304 ≤ G)
  (hkn : ∀ g' lv κ',Kept h g' [] → Agr g.size κ κ' → Ch κ (· = 2) g g' → RzB κ' g' lv t.results → Ans (kn [(1,.pointer (some ⟨tb,0,none⟩)),(2,.pointer (some ⟨rb,0,none⟩)),(3,lv),(4,vi t.results.length),(22,.bool false)] g' []) Q) :
  Ans (loopK G cx [1,2,3,4] l37_9 (putK 0 kn ke) kr G [(1,.pointer (some ⟨tb,0,none⟩)),(2,.pointer (some ⟨rb,0,none⟩)),(3,.slice none 0 0),(4,vi 0)] g []) Q := by
 have lr := hS.len
 have hn := hB.results
 refine loop_rule (fun m e g1 => ∃ (i : Nat) (lv : Value) (κ1 : Kp),i ≤ t.results.length ∧ m = t.results.length - i ∧ Kept h g1 [] ∧ Agr g.size κ κ1 ∧ Ch κ (· = 2) g g1 ∧ e = [(1,.pointer (some ⟨tb,0,none⟩)),(2,.pointer (some ⟨rb,0,none⟩)),(3,lv),(4,vi i)] ∧ RzB κ1 g1 lv (t.results.take i))
  ?_ G (t.results.length - 0) _ g (by omega) ⟨0,_,κ,by omega,rfl,hk,Agr.refl _ _,Ch.refl _ _ _,rfl,Bld.nil _ _ _ _⟩
 rintro m e g1 again ⟨i,lv,κ1,hi,rfl,hk1,ha,hc,rfl,hL⟩ hag
 have hT1 := hc.get hT (by rw [hκt];decide)
 have hT1' := hT1
 simp only [tdC] at hT1'
 by_cases hlt : i < t.results.length
 ·have hlt' : (i : Int) < t.results.length := by omega
  obtain ⟨x,hx⟩ : ∃ x,t.results[i]? = some x := ⟨_,List.getElem?_eq_getElem hlt⟩
  generalize hvr : vr = vr' at *
  obtain ⟨b,o,cc,cs,es,lv1,an,nv,rfl,hg0,hl,hr,hN0⟩ := rz_at hS hx
  have hg := (hk1.get (b := b) (lt_of_get hg0) (by simp)).trans hg0
  have wi : IntKind.i64.wrap ((i : Int) + 1) = ((i + 1 : Nat) : Int) := by rw [wrap_in (by omega) (by omega)];omega
  have hkx := hB.kids x (mem_of_get hx)
  have kb := rowKept g1 (rzC x nv) 0 []
  have hb : hget (Ev.newRow g1 (rzC x nv) 0 []) g1.size = some (.cells (rzC x nv) 0 true []) := by simp
  have z1 : (Ev.newRow g1 (rzC x nv) 0 []).size = g1.size + 1 := by simp
  have hN := slr_kept hN0 (hk1.trans kb) fun _ _ _ q => q
  obtain ⟨new,v1,g2,a1,a2,a3,a4,a5,a6,a,rfl⟩ := cloned (w := 1) (bytes := 16) (enc := fun s : ByteArray => [Value.string s]) (by decide) (fun _ => rfl) txC_one hN (by omega)
  have hb2 := (a5.get (b := g1.size) (by omega) (by simp)).trans hb
  have hgb := (kb.get (b := b) (lt_of_get hg) (by simp)).trans hg
  have hTb := (kb.get (b := tb) (lt_of_get hT1) (by simp)).trans hT1'
  have htb := lt_of_get hTb
  have hbb := lt_of_get hgb
  have hT2 := (a5.get (b := tb) htb (by simp)).trans hTb
  have hT2s := lt_of_get hT2
  obtain ⟨v5,g5,κ2,c1,c2,c3,c4⟩ := nest_step (bytes := 88) hL hx a5 a6 (fun k => by show (6 + 3 * k : Nat) ≠ 2;omega) rfl (by omega)
  have one := hN0.one
  have h2 := take_sub hr 6 1 (by decide)
  have hl2 : o + i * 7 + 6 + 1 ≤ cs.length := by omega
  have hbs := lt_of_get hb2
  simp only [rzC,List.drop_succ_cons,List.drop_zero,List.take_succ_cons,List.take_zero,List.take_nil] at h2 hr
  have one2 := one
  unfold oneCell at one2
  have ntx := hN0.ne_text
  have onev := a6.sl.one
  have one3 := onev
  unfold oneCell at one3
  have ntv := a3
  unfold isText at ntx ntv
  have a46 := a4
  unfold oneCell at a46
  have a46 := eq_true a46
  simp (disch := first|omega|(simp only [zS];first|done|omega)) [bB,l37_9,r37_4,hT1',hlt',r37_5,hg,hl,hr,one2]
  have eqz : Ev.newRow g1 [.string x.place,.string x.data,vi x.version,vi x.made,vi x.changed,vi x.owner,nv] 0 [] = Ev.newRow g1 (rzC x nv) 0 [] := rfl
  rw [eqz]
  generalize Ev.newRow g1 (rzC x nv) 0 [] = g0 at *
  simp only [rzC] at hb2 c1 hb
  simp (disch := first|omega|(simp only [zS];first|done|omega)) [bB,r37_6,hTb,hgb,hl2,h2,a1,a2,a3,a46,ntx,ntv,hb,hb2,hlt']
  have b3 : hget (g2.setIfInBounds g1.size (.cells [.string x.place,.string x.data,vi x.version,vi x.made,vi x.changed,vi x.owner,.slice a x.kids.length x.kids.length] 0 true [])) g1.size = some (.cells [.string x.place,.string x.data,vi x.version,vi x.made,vi x.changed,vi x.owner,.slice a x.kids.length x.kids.length] 0 true []) := by simp [hbs]
  have olv := hL.sl.ne_text
  unfold isText at olv
  simp (disch := first|omega|(simp only [zS];first|done|omega)) [bB,r37_7,b3,srcOf,isText,c1,olv,r37_8,wi]
  have cc3 : Ch κ (· = 2) g g5 := hc.trans c3 ha
  exact hag (t.results.length - (i + 1)) _ _ (by omega) ⟨i + 1,_,κ2,hlt,rfl,ch_kept hk hκ (by decide) cc3,ha.trans c2 hc.1,cc3,rfl,c4⟩
 ·have hie : i = t.results.length := by omega
  subst hie
  rw [List.take_length] at hL
  simp (disch := first|omega|(simp only [zS];first|done|omega)) [bB,l37_9,r37_4,hT1',lr]
  exact hkn g1 lv κ1 hk1 ha hc hL
set_option maxHeartbeats 2000000 in
theorem twC {G : Nat} {cx : Cx} {κ : Kp} {g : H} {tb rb : Nat} {t : Td} {vo vr vc vp vn : Value} {kn kr : K} {ke : Nat → K} {Q : Value → H → Prop}
  (hκ : ∀ c,c < h.size → κ c = 0) (hk : Kept h g []) (hT : hget g tb = some (.cells (tdC t vo vr vc vp vn) 0 true [])) (hκt : κ tb = 0) (hS : SlR T 5 CgR h vc t.changes) (hB : TdB t) (hG : 4194304 ≤ G)
  (hkn : ∀ g' lv κ',Kept h g' [] → Agr g.size κ κ' → Ch κ (· = 4) g g' → CgB κ' g' lv t.changes → Ans (kn [(1,.pointer (some ⟨tb,0,none⟩)),(2,.pointer (some ⟨rb,0,none⟩)),(6,lv),(7,vi t.changes.length),(62,.bool false)] g' []) Q) :
  Ans (loopK G cx [1,2,6,7] l37_19 (putK 2 kn ke) kr G [(1,.pointer (some ⟨tb,0,none⟩)),(2,.pointer (some ⟨rb,0,none⟩)),(6,.slice none 0 0),(7,vi 0)] g []) Q := by
 have lr := hS.len
 have hn := hB.changes
 refine loop_rule (fun m e g1 => ∃ (i : Nat) (lv : Value) (κ1 : Kp),i ≤ t.changes.length ∧ m = t.changes.length - i ∧ Kept h g1 [] ∧ Agr g.size κ κ1 ∧ Ch κ (· = 4) g g1 ∧ e = [(1,.pointer (some ⟨tb,0,none⟩)),(2,.pointer (some ⟨rb,0,none⟩)),(6,lv),(7,vi i)] ∧ CgB κ1 g1 lv (t.changes.take i))
  ?_ G (t.changes.length - 0) _ g (by omega) ⟨0,_,κ,by omega,rfl,hk,Agr.refl _ _,Ch.refl _ _ _,rfl,Bld.nil _ _ _ _⟩
 rintro m e g1 again ⟨i,lv,κ1,hi,rfl,hk1,ha,hc,rfl,hL⟩ hag
 have hT1 := hc.get hT (by rw [hκt];decide)
 have hT1' := hT1
 simp only [tdC] at hT1'
 by_cases hlt : i < t.changes.length
 ·have hlt' : (i : Int) < t.changes.length := by omega
  obtain ⟨x,hx⟩ : ∃ x,t.changes[i]? = some x := ⟨_,List.getElem?_eq_getElem hlt⟩
  generalize hvr : vc = vr' at *
  obtain ⟨b,o,cc,cs,es,lv1,an,nv,rfl,hg0,hl,hr,hN0⟩ := cg_at hS hx
  have hg := (hk1.get (b := b) (lt_of_get hg0) (by simp)).trans hg0
  have wi : IntKind.i64.wrap ((i : Int) + 1) = ((i + 1 : Nat) : Int) := by rw [wrap_in (by omega) (by omega)];omega
  have hkx := hB.tags x (mem_of_get hx)
  have kb := rowKept g1 (cgC x nv) 0 []
  have hb : hget (Ev.newRow g1 (cgC x nv) 0 []) g1.size = some (.cells (cgC x nv) 0 true []) := by simp
  have z1 : (Ev.newRow g1 (cgC x nv) 0 []).size = g1.size + 1 := by simp
  have hN := slr_kept hN0 (hk1.trans kb) fun _ _ _ q => q
  obtain ⟨new,v1,g2,a1,a2,a3,a4,a5,a6,a,rfl⟩ := cloned (w := 1) (bytes := 8) (enc := fun n : Int => [vi n]) (by decide) (fun _ => rfl) inC_one hN (by omega)
  have hb2 := (a5.get (b := g1.size) (by omega) (by simp)).trans hb
  have hgb := (kb.get (b := b) (lt_of_get hg) (by simp)).trans hg
  have hTb := (kb.get (b := tb) (lt_of_get hT1) (by simp)).trans hT1'
  have htb := lt_of_get hTb
  have hbb := lt_of_get hgb
  have hT2 := (a5.get (b := tb) htb (by simp)).trans hTb
  have hT2s := lt_of_get hT2
  obtain ⟨v5,g5,κ2,c1,c2,c3,c4⟩ := nest_step (bytes := 72) hL hx a5 a6 (fun k => by show (7 + 3 * k : Nat) ≠ 4;omega) rfl (by omega)
  have one := hN0.one
  have h2 := take_sub hr 4 1 (by decide)
  have hl2 : o + i * 5 + 4 + 1 ≤ cs.length := by omega
  have hbs := lt_of_get hb2
  simp only [cgC,List.drop_succ_cons,List.drop_zero,List.take_succ_cons,List.take_zero,List.take_nil] at h2 hr
  have one2 := one
  unfold oneCell at one2
  have ntx := hN0.ne_text
  have onev := a6.sl.one
  have one3 := onev
  unfold oneCell at one3
  have ntv := a3
  unfold isText at ntx ntv
  have a46 := a4
  unfold oneCell at a46
  have a46 := eq_true a46
  simp (disch := first|omega|(simp only [zS];first|done|omega)) [bB,l37_19,r37_14,hT1',hlt',r37_15,hg,hl,hr,one2]
  have eqz : Ev.newRow g1 [vi x.kind,.string x.place,.string x.data,vi x.version,nv] 0 [] = Ev.newRow g1 (cgC x nv) 0 [] := rfl
  rw [eqz]
  generalize Ev.newRow g1 (cgC x nv) 0 [] = g0 at *
  simp only [cgC] at hb2 c1 hb
  simp (disch := first|omega|(simp only [zS];first|done|omega)) [bB,r37_16,hTb,hgb,hl2,h2,a1,a2,a3,a46,ntx,ntv,hb,hb2,hlt']
  have b3 : hget (g2.setIfInBounds g1.size (.cells [vi x.kind,.string x.place,.string x.data,vi x.version,.slice a x.tags.length x.tags.length] 0 true [])) g1.size = some (.cells [vi x.kind,.string x.place,.string x.data,vi x.version,.slice a x.tags.length x.tags.length] 0 true []) := by simp [hbs]
  have olv := hL.sl.ne_text
  unfold isText at olv
  simp (disch := first|omega|(simp only [zS];first|done|omega)) [bB,r37_17,b3,srcOf,isText,c1,olv,r37_18,wi]
  have cc3 : Ch κ (· = 4) g g5 := hc.trans c3 ha
  exact hag (t.changes.length - (i + 1)) _ _ (by omega) ⟨i + 1,_,κ2,hlt,rfl,ch_kept hk hκ (by decide) cc3,ha.trans c2 hc.1,cc3,rfl,c4⟩
 ·have hie : i = t.changes.length := by omega
  subst hie
  rw [List.take_length] at hL
  simp (disch := first|omega|(simp only [zS];first|done|omega)) [bB,l37_19,r37_14,hT1',lr]
  exact hkn g1 lv κ1 hk1 ha hc hL
set_option maxHeartbeats 2000000 in
theorem twP {G : Nat} {cx : Cx} {κ : Kp} {g : H} {tb rb : Nat} {t : Td} {vo vr vc vp vn : Value} {kn kr : K} {ke : Nat → K} {Q : Value → H → Prop}
  (hκ : ∀ c,c < h.size → κ c = 0) (hk : Kept h g []) (hT : hget g tb = some (.cells (tdC t vo vr vc vp vn) 0 true [])) (hκt : κ tb = 0) (hS : SlR T 5 PtR h vp t.parts) (hB : TdB t) (hG : 4194304 ≤ G)
  (hkn : ∀ g' lv κ',Kept h g' [] → Agr g.size κ κ' → Ch κ (· = 5) g g' → PtB κ' g' lv t.parts → Ans (kn [(1,.pointer (some ⟨tb,0,none⟩)),(2,.pointer (some ⟨rb,0,none⟩)),(9,lv),(10,vi t.parts.length),(93,.bool false)] g' []) Q) :
  Ans (loopK G cx [1,2,9,10] l37_28 (putK 4 kn ke) kr G [(1,.pointer (some ⟨tb,0,none⟩)),(2,.pointer (some ⟨rb,0,none⟩)),(9,.slice none 0 0),(10,vi 0)] g []) Q := by
 have lr := hS.len
 have hn := hB.parts
 refine loop_rule (fun m e g1 => ∃ (i : Nat) (lv : Value) (κ1 : Kp),i ≤ t.parts.length ∧ m = t.parts.length - i ∧ Kept h g1 [] ∧ Agr g.size κ κ1 ∧ Ch κ (· = 5) g g1 ∧ e = [(1,.pointer (some ⟨tb,0,none⟩)),(2,.pointer (some ⟨rb,0,none⟩)),(9,lv),(10,vi i)] ∧ PtB κ1 g1 lv (t.parts.take i))
  ?_ G (t.parts.length - 0) _ g (by omega) ⟨0,_,κ,by omega,rfl,hk,Agr.refl _ _,Ch.refl _ _ _,rfl,Bld.nil _ _ _ _⟩
 rintro m e g1 again ⟨i,lv,κ1,hi,rfl,hk1,ha,hc,rfl,hL⟩ hag
 have hT1 := hc.get hT (by rw [hκt];decide)
 have hT1' := hT1
 simp only [tdC] at hT1'
 by_cases hlt : i < t.parts.length
 ·have hlt' : (i : Int) < t.parts.length := by omega
  obtain ⟨x,hx⟩ : ∃ x,t.parts[i]? = some x := ⟨_,List.getElem?_eq_getElem hlt⟩
  generalize hvr : vp = vr' at *
  obtain ⟨b,o,cc,cs,es,lv1,an,nv,rfl,hg0,hl,hr,hN0⟩ := pt_at hS hx
  have hg := (hk1.get (b := b) (lt_of_get hg0) (by simp)).trans hg0
  have wi : IntKind.i64.wrap ((i : Int) + 1) = ((i + 1 : Nat) : Int) := by rw [wrap_in (by omega) (by omega)];omega
  have hkx := (hB.pnodes x (mem_of_get hx)).1
  have kb := rowKept g1 (ptC x nv) 0 []
  have hb : hget (Ev.newRow g1 (ptC x nv) 0 []) g1.size = some (.cells (ptC x nv) 0 true []) := by simp
  have z1 : (Ev.newRow g1 (ptC x nv) 0 []).size = g1.size + 1 := by simp
  have hN := slr_kept hN0 (hk1.trans kb) fun _ _ _ q => q
  obtain ⟨new,v1,g2,a1,a2,a3,a4,a5,a6,a,rfl⟩ := cloned (w := 3) (bytes := 40) (enc := snC) (by decide) (fun _ => rfl) snC_one hN (by omega)
  have hb2 := (a5.get (b := g1.size) (by omega) (by simp)).trans hb
  have hgb := (kb.get (b := b) (lt_of_get hg) (by simp)).trans hg
  have hTb := (kb.get (b := tb) (lt_of_get hT1) (by simp)).trans hT1'
  have htb := lt_of_get hTb
  have hbb := lt_of_get hgb
  have hT2 := (a5.get (b := tb) htb (by simp)).trans hTb
  have hT2s := lt_of_get hT2
  obtain ⟨v5,g5,κ2,c1,c2,c3,c4⟩ := nest_step (bytes := 64) hL hx a5 a6 (fun k => by show (8 + 3 * k : Nat) ≠ 5;omega) rfl (by omega)
  have one := hN0.one
  have h2 := take_sub hr 4 1 (by decide)
  have hl2 : o + i * 5 + 4 + 1 ≤ cs.length := by omega
  have hbs := lt_of_get hb2
  simp only [ptC,List.drop_succ_cons,List.drop_zero,List.take_succ_cons,List.take_zero,List.take_nil] at h2 hr
  have one2 := one
  unfold oneCell at one2
  have ntx := hN0.ne_text
  have onev := a6.sl.one
  have one3 := onev
  unfold oneCell at one3
  have ntv := a3
  unfold isText at ntx ntv
  have a46 := a4
  unfold oneCell at a46
  have a46 := eq_true a46
  simp (disch := first|omega|(simp only [zS];first|done|omega)) [bB,l37_28,r37_23,hT1',hlt',r37_24,hg,hl,hr,one2]
  have eqz : Ev.newRow g1 [vi x.id,vi x.stamp,.string x.place,vi x.kind,nv] 0 [] = Ev.newRow g1 (ptC x nv) 0 [] := rfl
  rw [eqz]
  generalize Ev.newRow g1 (ptC x nv) 0 [] = g0 at *
  simp only [ptC] at hb2 c1 hb
  simp (disch := first|omega|(simp only [zS];first|done|omega)) [bB,r37_25,hTb,hgb,hl2,h2,a1,a2,a3,a46,ntx,ntv,hb,hb2,hlt']
  have b3 : hget (g2.setIfInBounds g1.size (.cells [vi x.id,vi x.stamp,.string x.place,vi x.kind,.slice a x.nodes.length x.nodes.length] 0 true [])) g1.size = some (.cells [vi x.id,vi x.stamp,.string x.place,vi x.kind,.slice a x.nodes.length x.nodes.length] 0 true []) := by simp [hbs]
  have olv := hL.sl.ne_text
  unfold isText at olv
  simp (disch := first|omega|(simp only [zS];first|done|omega)) [bB,r37_26,b3,srcOf,isText,c1,olv,r37_27,wi]
  have cc3 : Ch κ (· = 5) g g5 := hc.trans c3 ha
  exact hag (t.parts.length - (i + 1)) _ _ (by omega) ⟨i + 1,_,κ2,hlt,rfl,ch_kept hk hκ (by decide) cc3,ha.trans c2 hc.1,cc3,rfl,c4⟩
 ·have hie : i = t.parts.length := by omega
  subst hie
  rw [List.take_length] at hL
  simp (disch := first|omega|(simp only [zS];first|done|omega)) [bB,l37_28,r37_23,hT1',lr]
  exact hkn g1 lv κ1 hk1 ha hc hL
end Go.Proofs.YtalamcchkkdelaaGreatDoor
end
section
set_option maxRecDepth 100000
namespace Go.Proofs.YtalamcchkkdelaaGreatDoor
open Go.Ev
variable {F : Nat} {h : H}
structure Own (κ : Kp) (g : H) (t : Td) (vo vr vc vp vn : Value) : Prop where
 ops : Bld (fun c => κ c = 1) 5 (Pl opC) g vo t.ops
 results : RzB κ g vr t.results
 nodes : Bld (fun c => κ c = 3) 3 (Pl snC) g vn t.nodes
 changes : CgB κ g vc t.changes
 parts : PtB κ g vp t.parts
theorem ch_set {κ : Kp} {g : H} {b : Nat} {X : Blk} (hb : κ b = 0) : Ch κ (· = 0) g (g.setIfInBounds b X) := ⟨by simp,fun c hc hn => set_other (fun e => hn (e ▸ hb))⟩
theorem Own.tr {κ κ' : Kp} {g g' : H} {t : Td} {vo vr vc vp vn : Value} (o : Own κ g t vo vr vc vp vn) (k : Ch κ (· = 0) g g') (a : Agr g.size κ κ') : Own κ' g' t vo vr vc vp vn :=
 ⟨o.ops.tr k (by decide) a fun _ _ _ _ q => q,nest_tr o.results k (by decide) (fun i => by show ¬ (6 + 3 * i : Nat) = 0;omega) a,o.nodes.tr k (by decide) a fun _ _ _ _ q => q,
  nest_tr o.changes k (by decide) (fun i => by show ¬ (7 + 3 * i : Nat) = 0;omega) a,nest_tr o.parts k (by decide) (fun i => by show ¬ (8 + 3 * i : Nat) = 0;omega) a⟩
theorem Own.kept {κ : Kp} {g g' : H} {t : Td} {vo vr vc vp vn : Value} (o : Own κ g t vo vr vc vp vn) (k : Kept g g' []) : Own κ g' t vo vr vc vp vn := o.tr (Ch.of k) (Agr.refl _ _)
theorem sl_T {α : Type} {ok : Nat → Prop} {w : Nat} {R : H → List Value → α → Prop} {h : H} {v : Value} {xs : List α} (s : SlR ok w R h v xs) : SlR T w R h v xs :=
 s.imp (fun _ _ _ => trivial) (fun _ _ _ q => q) fun _ _ _ q => q
theorem Own.td {κ : Kp} {g : H} {t : Td} {vo vr vc vp vn : Value} (o : Own κ g t vo vr vc vp vn) : TdR g t vo vr vc vp vn :=
 ⟨sl_T o.ops.sl,nest_sl (fun cs v x e s => ⟨v,e,s⟩) o.results,nest_sl (fun cs v x e s => ⟨v,e,s⟩) o.changes,nest_sl (fun cs v x e s => ⟨v,e,s⟩) o.parts,sl_T o.nodes.sl⟩
theorem kget {g g' : H} {c : Nat} {x : Blk} (e : hget g c = some x) (k : Kept g g' []) : hget g' c = some x := (k.get (lt_of_get e) (by simp)).trans e
theorem bld_tr {β : Type} {e : β → List Value} {w : Nat} {κ κ' : Kp} {S : Col → Prop} {col : Col} {g g' : H} {v : Value} {xs : List β} (s : Bld (fun c => κ c = col) w (Pl e) g v xs) (k : Ch κ S g g') (hS : ¬ S col) (hk : Agr g.size κ κ') : Bld (fun c => κ' c = col) w (Pl e) g' v xs :=
 s.tr k hS hk fun _ _ _ _ q => q
theorem bld_is {α : Type} {ok : Nat → Prop} {w : Nat} {R : H → List Value → α → Prop} {h : H} {v : Value} {xs : List α} (s : Bld ok w R h v xs) : ∃ a,v = .slice a xs.length xs.length := by
 rcases s with ⟨e,e'⟩ | ⟨b,cs,an,e,_⟩
 ·subst e'
  exact ⟨_,e⟩
 ·exact ⟨_,e⟩
def TwV (h : H) (t : Td) (v : Value) (h' : H) : Prop := Kept h h' [] ∧ ∃ (vo vr vc vp vn : Value) (κ : Kp),v = .agg ⟨tdC t vo vr vc vp vn⟩ ∧ (∀ c,c < h.size → κ c = 0) ∧ Own κ h' t vo vr vc vp vn
set_option maxHeartbeats 4000000 in
theorem twin_spec {vo vr vc vp vn : Value} {t : Td} (hR : TdR h t vo vr vc vp vn) (hB : TdB t) (hF : Big F) : Ans (cf (F + 1) 37 [.agg ⟨tdC t vo vr vc vp vn⟩] h) (TwV h t) := by
 rw [cf_step (a := a37) rfl rfl (by simp [a37])]
 unfold Big at hF
 have k1 := rowKept h (tdC t vo vr vc vp vn) 0 []
 have hbx : hget (Ev.newRow h (tdC t vo vr vc vp vn) 0 []) h.size = some (.cells (tdC t vo vr vc vp vn) 0 true []) := by simp
 have hz1 : (Ev.newRow h (tdC t vo vr vc vp vn) 0 []).size = h.size + 1 := by simp
 simp (disch := first|omega|(simp only [zS];first|done|omega)) [bB,a37,r37_0]
 generalize Ev.newRow h (tdC t vo vr vc vp vn) 0 [] = g0 at *
 obtain ⟨zs,hzs⟩ : ∃ zs : List Value,zs = [vi 0,vi 0,vi 0,vi 0,vi 0,vi 0,vi 0,.slice none 0 0,vi 0,vi 0,vi 0,.slice none 0 0,vi 0,.string ⟨#[]⟩,vi 0,vi 0,vi 0,vi 0,.bool false,.slice none 0 0,.slice none 0 0,vi 0,vi 0,.string ⟨#[]⟩,vi 0,.slice none 0 0] := ⟨_,rfl⟩
 have hzl : zs.length = 26 := by rw [hzs];rfl
 rw [← hzs]
 have k2 := rowKept g0 zs 0 []
 have hrb : hget (Ev.newRow g0 zs 0 []) g0.size = some (.cells zs 0 true []) := by simp
 have hz2 : (Ev.newRow g0 zs 0 []).size = h.size + 2 := by simp [hz1]
 have htb := (k2.get (b := h.size) (by omega) (by simp)).trans hbx
 rw [hz1] at hrb
 generalize Ev.newRow g0 zs 0 [] = g1 at *
 have kh1 := k1.trans k2
 clear hbx k1 k2
 have hl := hR.ops
 have hol := hB.ops
 have hops := slr_kept hl kh1 fun _ _ _ q => q
 obtain ⟨new,v1,g2,a1,a2,a3,a4,a5,a6,a,rfl⟩ := cloned (w := 5) (bytes := 56) (enc := opC) (by decide) (fun _ => rfl) opC_one hops (by omega)
 have t2' := kget htb a5
 have b2 := kget hrb a5
 simp only [tdC] at t2'
 have t1' := htb
 simp only [tdC] at t1'
 have n5 := rowKept g1 [] 5 []
 have t15 := kget t1' n5
 have ntx := hops.ne_text
 have a46 := a4
 unfold oneCell at a46
 have a46 := eq_true a46
 unfold isText at ntx a3
 have hs1 := lt_of_get htb
 have hs2 := lt_of_get t2'
 have hs2b := lt_of_get b2
 simp (disch := first|omega|(simp only [zS];first|done|omega)) [bB,r37_1,t15,a1,a2,a3,a46,ntx,t2']
 obtain ⟨vo',hvo'⟩ : ∃ v : Value,v = .slice a t.ops.length t.ops.length := ⟨_,rfl⟩
 rw [← hvo'] at a6 a2 ⊢
 show Ans (evR _ r37_2 _ (g2.setIfInBounds h.size (.cells (tdC t vo' vr vc vp vn) 0 true [])) _ _ _) _
 have κ1h : ∀ c,c < h.size + 2 → ext (fun _ => 0) g1.size 1 c = 0 := fun c hc => by rw [ext_lt (by omega)]
 have ops2 : Bld (fun c => ext (fun _ => 0) g1.size 1 c = 1) 5 (Pl opC) g2 vo' t.ops := a6.imp fun c _ q => ext_ge q
 generalize ext (fun _ => 0) g1.size 1 = κ1 at *
 have s3 : Ch κ1 (· = 0) g2 (g2.setIfInBounds h.size (.cells (tdC t vo' vr vc vp vn) 0 true [])) := ch_set (κ1h _ (by omega))
 have ops3 := bld_tr ops2 s3 (by decide) (Agr.refl _ _)
 have t3 : hget (g2.setIfInBounds h.size (.cells (tdC t vo' vr vc vp vn) 0 true [])) h.size = some (.cells (tdC t vo' vr vc vp vn) 0 true []) := by simp [hs2]
 have r3 : hget (g2.setIfInBounds h.size (.cells (tdC t vo' vr vc vp vn) 0 true [])) (h.size + 1) = some (.cells zs 0 true []) := by rw [set_other (by omega)];exact b2
 have kh3 : Kept h (g2.setIfInBounds h.size (.cells (tdC t vo' vr vc vp vn) 0 true [])) [] := kept_set (kh1.trans a5) (Nat.le_refl _)
 generalize g2.setIfInBounds h.size (.cells (tdC t vo' vr vc vp vn) 0 true []) = g3 at *
 clear a2 a6 t2' b2 t1' t15 s3 ops2 htb hrb hops hl
 simp (disch := first|omega|(simp only [zS];first|done|omega)) [bB,r37_2,r37_3]
 refine twR (κ := κ1) (fun c hc => κ1h c (by omega)) kh3 t3 (κ1h _ (by omega)) hR.results hB (by omega) ?_
 intro g4 vr' κ2 kh4 ag4 ch4 hRz
 have t4 := ch4.get t3 (by rw [κ1h _ (by omega)];decide)
 have r4 := ch4.get r3 (by rw [κ1h _ (by omega)];decide)
 have ops4 := bld_tr ops3 ch4 (by decide) ag4
 have κ2h : ∀ c,c < h.size + 2 → κ2 c = 0 := fun c hc => (ag4 c (by have := lt_of_get r3;omega)).trans (κ1h c hc)
 obtain ⟨a7,hvr⟩ := bld_is hRz
 have t4' := t4
 simp only [tdC] at t4'
 have hs4 := lt_of_get t4
 rw [hvr]
 simp (disch := first|omega|(simp only [zS];first|done|omega)) [bB,r37_10,t4']
 rw [← hvr]
 show Ans (evR _ r37_11 _ (g4.setIfInBounds h.size (.cells (tdC t vo' vr' vc vp vn) 0 true [])) _ _ _) _
 have stg5 : Ch κ2 (· = 0) g4 (g4.setIfInBounds h.size (.cells (tdC t vo' vr' vc vp vn) 0 true [])) := ch_set (κ2h _ (by omega))
 have ops5 := bld_tr ops4 stg5 (by decide) (Agr.refl _ _)
 have rz5 := nest_tr hRz stg5 (by decide) (fun i => by show ¬ (6 + 3 * i : Nat) = 0;omega) (Agr.refl _ _)
 have tg5 : hget (g4.setIfInBounds h.size (.cells (tdC t vo' vr' vc vp vn) 0 true [])) h.size = some (.cells (tdC t vo' vr' vc vp vn) 0 true []) := by simp [lt_of_get t4]
 have rg5 : hget (g4.setIfInBounds h.size (.cells (tdC t vo' vr' vc vp vn) 0 true [])) (h.size + 1) = some (.cells zs 0 true []) := by rw [set_other (by omega)];exact r4
 have kg5 : Kept h (g4.setIfInBounds h.size (.cells (tdC t vo' vr' vc vp vn) 0 true [])) [] := kept_set kh4 (Nat.le_refl _)
 generalize g4.setIfInBounds h.size (.cells (tdC t vo' vr' vc vp vn) 0 true []) = g5 at *
 clear t4 t4' r4 hRz ops4 ops3 t3 r3 kh3 ch4
 have nds := slr_kept hR.nodes kg5 fun _ _ _ q => q
 have hnl := hB.nodes.1
 obtain ⟨new2,v2,g6,b1,b2,b3,b4,b5,b6,a8,rfl⟩ := cloned (w := 3) (bytes := 40) (enc := snC) (by decide) (fun _ => rfl) snC_one nds (by omega)
 have t6 := kget tg5 b5
 have r6 := kget rg5 b5
 have t5' := kget tg5 (rowKept g5 [] 3 [])
 simp only [tdC] at t5'
 have t6' := t6
 simp only [tdC] at t6'
 have ntn := nds.ne_text
 have b46 := b4
 unfold oneCell at b46
 have b46 := eq_true b46
 unfold isText at ntn b3
 simp (disch := first|omega|(simp only [zS];first|done|omega)) [bB,r37_11,t5',b1,b2,b3,b46,ntn,t6']
 obtain ⟨vn',hvn'⟩ : ∃ v : Value,v = .slice a8 t.nodes.length t.nodes.length := ⟨_,rfl⟩
 rw [← hvn'] at b6 b2 ⊢
 show Ans (evR _ r37_12 _ (g6.setIfInBounds h.size (.cells (tdC t vo' vr' vc vp vn') 0 true [])) _ _ _) _
 have ag5 : Agr g5.size κ2 (ext κ2 g5.size 3) := Agr.ext (Nat.le_refl _)
 have hs5 := lt_of_get rg5
 have κ3h : ∀ c,c < h.size + 2 → ext κ2 g5.size 3 c = 0 := fun c hc => (ag5 c (by omega)).trans (κ2h c hc)
 have nd6 : Bld (fun c => ext κ2 g5.size 3 c = 3) 3 (Pl snC) g6 vn' t.nodes := b6.imp fun c _ q => ext_ge q
 have ops6 := bld_tr ops5 (Ch.of b5 (S := no)) (fun q => q) ag5
 have rz6 := nest_tr rz5 (Ch.of b5 (S := no)) (fun q => q) (fun _ q => q) ag5
 generalize ext κ2 g5.size 3 = κ3 at *
 have stg7 : Ch κ3 (· = 0) g6 (g6.setIfInBounds h.size (.cells (tdC t vo' vr' vc vp vn') 0 true [])) := ch_set (κ3h _ (by omega))
 have ops7 := bld_tr ops6 stg7 (by decide) (Agr.refl _ _)
 have rz7 := nest_tr rz6 stg7 (by decide) (fun i => by show ¬ (6 + 3 * i : Nat) = 0;omega) (Agr.refl _ _)
 have nd7 := bld_tr nd6 stg7 (by decide) (Agr.refl _ _)
 have tg7 : hget (g6.setIfInBounds h.size (.cells (tdC t vo' vr' vc vp vn') 0 true [])) h.size = some (.cells (tdC t vo' vr' vc vp vn') 0 true []) := by simp [lt_of_get t6']
 have rg7 : hget (g6.setIfInBounds h.size (.cells (tdC t vo' vr' vc vp vn') 0 true [])) (h.size + 1) = some (.cells zs 0 true []) := by rw [set_other (by omega)];exact r6
 have kg7 : Kept h (g6.setIfInBounds h.size (.cells (tdC t vo' vr' vc vp vn') 0 true [])) [] := kept_set (kg5.trans b5) (Nat.le_refl _)
 generalize g6.setIfInBounds h.size (.cells (tdC t vo' vr' vc vp vn') 0 true []) = g7 at *
 clear t5' t6 t6' r6 ops5 ops6 rz5 rz6 nd6 b2 b6 tg5 rg5 nds
 simp (disch := first|omega|(simp only [zS];first|done|omega)) [bB,r37_12,r37_13]
 refine twC (κ := κ3) (fun c hc => κ3h c (by omega)) kg7 tg7 (κ3h _ (by omega)) hR.changes hB (by omega) ?_
 intro g8 vc' κ4 kh8 ag8 ch8 hCg
 have t8 := ch8.get tg7 (by rw [κ3h _ (by omega)];decide)
 have r8 := ch8.get rg7 (by rw [κ3h _ (by omega)];decide)
 have ops8 := bld_tr ops7 ch8 (by decide) ag8
 have nd8 := bld_tr nd7 ch8 (by decide) ag8
 have rz8 := nest_tr rz7 ch8 (by decide) (fun i => by show ¬ (6 + 3 * i : Nat) = 4;omega) ag8
 have κ4h : ∀ c,c < h.size + 2 → κ4 c = 0 := fun c hc => (ag8 c (by have := lt_of_get rg7;omega)).trans (κ3h c hc)
 obtain ⟨a9,hvc⟩ := bld_is hCg
 have t8' := t8
 simp only [tdC] at t8'
 rw [hvc]
 simp (disch := first|omega|(simp only [zS];first|done|omega)) [bB,r37_20,t8']
 rw [← hvc]
 show Ans (evR _ r37_21 _ (g8.setIfInBounds h.size (.cells (tdC t vo' vr' vc' vp vn') 0 true [])) _ _ _) _
 have stg9 : Ch κ4 (· = 0) g8 (g8.setIfInBounds h.size (.cells (tdC t vo' vr' vc' vp vn') 0 true [])) := ch_set (κ4h _ (by omega))
 have ops9 := bld_tr ops8 stg9 (by decide) (Agr.refl _ _)
 have rz9 := nest_tr rz8 stg9 (by decide) (fun i => by show ¬ (6 + 3 * i : Nat) = 0;omega) (Agr.refl _ _)
 have nd9 := bld_tr nd8 stg9 (by decide) (Agr.refl _ _)
 have cg9 := nest_tr hCg stg9 (by decide) (fun i => by show ¬ (7 + 3 * i : Nat) = 0;omega) (Agr.refl _ _)
 have tg9 : hget (g8.setIfInBounds h.size (.cells (tdC t vo' vr' vc' vp vn') 0 true [])) h.size = some (.cells (tdC t vo' vr' vc' vp vn') 0 true []) := by simp [lt_of_get t8]
 have rg9 : hget (g8.setIfInBounds h.size (.cells (tdC t vo' vr' vc' vp vn') 0 true [])) (h.size + 1) = some (.cells zs 0 true []) := by rw [set_other (by omega)];exact r8
 have kg9 : Kept h (g8.setIfInBounds h.size (.cells (tdC t vo' vr' vc' vp vn') 0 true [])) [] := kept_set kh8 (Nat.le_refl _)
 generalize g8.setIfInBounds h.size (.cells (tdC t vo' vr' vc' vp vn') 0 true []) = g9 at *
 clear t8 t8' r8 ops7 ops8 rz7 rz8 nd7 nd8 hCg
 simp (disch := first|omega|(simp only [zS];first|done|omega)) [bB,r37_21,r37_22]
 refine twP (κ := κ4) (fun c hc => κ4h c (by omega)) kg9 tg9 (κ4h _ (by omega)) hR.parts hB (by omega) ?_
 intro g10 vp' κ5 kh10 ag10 ch10 hPt
 have t10 := ch10.get tg9 (by rw [κ4h _ (by omega)];decide)
 have r10 := ch10.get rg9 (by rw [κ4h _ (by omega)];decide)
 have ops10 := bld_tr ops9 ch10 (by decide) ag10
 have nd10 := bld_tr nd9 ch10 (by decide) ag10
 have rz10 := nest_tr rz9 ch10 (by decide) (fun i => by show ¬ (6 + 3 * i : Nat) = 5;omega) ag10
 have cg10 := nest_tr cg9 ch10 (by decide) (fun i => by show ¬ (7 + 3 * i : Nat) = 5;omega) ag10
 have κ5h : ∀ c,c < h.size + 2 → κ5 c = 0 := fun c hc => (ag10 c (by have := lt_of_get rg9;omega)).trans (κ4h c hc)
 have own : Own κ5 g10 t vo' vr' vc' vp' vn' := ⟨ops10,rz10,nd10,cg10,hPt⟩
 obtain ⟨a10,hvp⟩ := bld_is hPt
 have t10' := t10
 simp only [tdC] at t10'
 rw [hvp]
 simp (disch := first|omega|(simp only [zS];first|done|omega)) [bB,r37_29,t10']
 rw [← hvp]
 show Ans (evR _ r37_30 _ (g10.setIfInBounds h.size (.cells (tdC t vo' vr' vc' vp' vn') 0 true [])) _ _ _) _
 have stg11 : Ch κ5 (· = 0) g10 (g10.setIfInBounds h.size (.cells (tdC t vo' vr' vc' vp' vn') 0 true [])) := ch_set (κ5h _ (by omega))
 have own1 := own.tr stg11 (Agr.refl _ _)
 have tg11 : hget (g10.setIfInBounds h.size (.cells (tdC t vo' vr' vc' vp' vn') 0 true [])) h.size = some (.cells (tdC t vo' vr' vc' vp' vn') 0 true []) := by simp [lt_of_get t10]
 have rg11 : hget (g10.setIfInBounds h.size (.cells (tdC t vo' vr' vc' vp' vn') 0 true [])) (h.size + 1) = some (.cells zs 0 true []) := by rw [set_other (by omega)];exact r10
 have kg11 : Kept h (g10.setIfInBounds h.size (.cells (tdC t vo' vr' vc' vp' vn') 0 true [])) [] := kept_set kh10 (Nat.le_refl _)
 generalize g10.setIfInBounds h.size (.cells (tdC t vo' vr' vc' vp' vn') 0 true []) = g11 at *
 clear t10 t10' r10 own
 have tl' := tg11
 simp only [tdC] at tl'
 obtain ⟨q1,hq1⟩ := bld_is own1.ops
 obtain ⟨q2,hq2⟩ := bld_is own1.results
 obtain ⟨q3,hq3⟩ := bld_is own1.nodes
 obtain ⟨q4,hq4⟩ := bld_is own1.changes
 obtain ⟨q5,hq5⟩ := bld_is own1.parts
 rw [hq1,hq2,hq3,hq4,hq5] at tl'
 have hzd : zs.drop 26 = [] := by rw [hzs];rfl
 have hsr := lt_of_get rg11
 have hst := lt_of_get tg11
 simp (disch := first|omega|(simp only [zS];first|done|omega)) [bB,r37_30,tl',rg11,hzl,hzd]
 rw [← hq1,← hq2,← hq3,← hq4,← hq5]
 refine Ans.of ⟨kept_set kg11 (by omega),vo',vr',vc',vp',vn',κ5,rfl,fun c hc => κ5h c (by omega),own1.tr (ch_set (κ5h _ (by omega))) (Agr.refl _ _)⟩
end Go.Proofs.YtalamcchkkdelaaGreatDoor
end
section
set_option maxRecDepth 100000
namespace Go.Proofs.YtalamcchkkdelaaGreatDoor
open Go.Ev
variable {F : Nat} {h : H}
def TrV (h : H) (v : Value) (h' : H) : Prop := Kept h h' [] ∧ v = .bool true
set_option maxHeartbeats 4000000 in
theorem same_spec {vo vr vc vp vn wo wr wc wp wn : Value} {t : Td} (hR : TdR h t vo vr vc vp vn) (hS : TdR h t wo wr wc wp wn) (hB : TdB t) (hF : Big F) : Ans (cf (F + 2) 38 [.agg ⟨tdC t vo vr vc vp vn⟩,.agg ⟨tdC t wo wr wc wp wn⟩] h) (TrV h) := by
 rw [cf_step (a := a38) rfl rfl (by simp [a38])]
 have e1 := fun (g : H) (v w : Value) (xs : List Opv) (hS : SlR T 5 OpR g v xs) (hT : SlR T 5 OpR g w xs) (hn : xs.length ≤ 2097152) => sameOps_spec (F := F) hS hT hn hF
 have e2 := fun (g : H) (v w : Value) (xs : List ByteArray) (hS : SlR T 1 TxR g v xs) (hT : SlR T 1 TxR g w xs) (hn : xs.length ≤ 2097152) => sameTexts_spec (F := F) hS hT hn hF
 unfold Big at hF
 generalize cf (F + 1) = c at *
 have k1 := rowKept h (tdC t vo vr vc vp vn) 0 []
 have hb1 : hget (Ev.newRow h (tdC t vo vr vc vp vn) 0 []) h.size = some (.cells (tdC t vo vr vc vp vn) 0 true []) := by simp
 have hz1 : (Ev.newRow h (tdC t vo vr vc vp vn) 0 []).size = h.size + 1 := by simp
 simp (disch := first|omega|(simp only [zS];first|done|omega)) [bB,a38,r38_0]
 generalize Ev.newRow h (tdC t vo vr vc vp vn) 0 [] = g0 at *
 have k2 := rowKept g0 (tdC t wo wr wc wp wn) 0 []
 have hb2 : hget (Ev.newRow g0 (tdC t wo wr wc wp wn) 0 []) g0.size = some (.cells (tdC t wo wr wc wp wn) 0 true []) := by simp
 have hb1 := kget hb1 k2
 rw [hz1] at hb2
 have k := k1.trans k2
 generalize Ev.newRow g0 (tdC t wo wr wc wp wn) 0 [] = g at *
 have hR := hR.kept k
 have hS := hS.kept k
 simp only [tdC] at hb1 hb2
 have lr := hR.results.len
 have lc := hR.changes.len
 have lp := hR.parts.len
 have ln := hR.nodes.len
 have lr' := hS.results.len
 have lc' := hS.changes.len
 have lp' := hS.parts.len
 have ln' := hS.nodes.len
 have nr := hB.results
 have nc := hB.changes
 have np := hB.parts
 have nn := hB.nodes.1
 simp (disch := first|omega|(simp only [zS];first|done|omega)) [bB,r38_1,hb1,hb2]
 refine Ans.nextC (e1 _ _ _ _ hR.ops hS.ops hB.ops) ?_
 rintro u g' ⟨rfl,rfl⟩
 simp (disch := first|omega|(simp only [zS];first|done|omega)) [bB,aUn,hb1,hb2,lr,lr',lc,lc',lp,lp',ln,ln',r38_3]
 refine loop_rule (fun m e g1 => ∃ i : Nat,i ≤ t.results.length ∧ m = t.results.length - i ∧ g1 = g' ∧ e = [(2,.pointer (some ⟨h.size,0,none⟩)),(3,.pointer (some ⟨h.size + 1,0,none⟩)),(5,vi i)]) ?_ (F + 1) (t.results.length - 0) _ g' (by omega) ⟨0,by omega,rfl,rfl,rfl⟩
 rintro m e g1 again ⟨i,hi,rfl,rfl,rfl⟩ hag
 by_cases hlt : i < t.results.length
 ·have hlt' : (i : Int) < t.results.length := by omega
  obtain ⟨x,hx⟩ : ∃ x,t.results[i]? = some x := ⟨_,List.getElem?_eq_getElem hlt⟩
  have hRr := hR.results
  have hSr := hS.results
  clear hR hS
  obtain ⟨b,o,cc,cs,es,lv,an,nv,rfl,hg,hl,hr,hN⟩ := rz_at hRr hx
  obtain ⟨b',o',cc',cs',es',lv',an',nv',rfl,hg',hl',hr',hN'⟩ := rz_at hSr hx
  have wi : IntKind.i64.wrap ((i : Int) + 1) = ((i + 1 : Nat) : Int) := by rw [wrap_in (by omega) (by omega)];omega
  have p1 := take_sub hr 0 1 (by decide)
  have p1' := take_sub hr' 0 1 (by decide)
  have p7 := take_sub hr 6 1 (by decide)
  have p7' := take_sub hr' 6 1 (by decide)
  simp only [rzC,List.drop_succ_cons,List.drop_zero,List.take_succ_cons,List.take_zero,List.take_nil,Nat.add_zero] at p1 p1' p7 p7'
  have l1 : o + i * 7 + 1 ≤ cs.length := by omega
  have l1' : o' + i * 7 + 1 ≤ cs'.length := by omega
  have l7 : o + i * 7 + 6 + 1 ≤ cs.length := by omega
  have l7' : o' + i * 7 + 6 + 1 ≤ cs'.length := by omega
  simp (disch := first|omega|(simp only [zS];first|done|omega)) [bB,l38_8,r38_4,hb1,hb2,hlt',d38_5,hg,l1,p1,hg',l1',p1',ba_nself,l7,p7,l7',p7']
  refine Ans.nextCE (e2 _ _ _ _ hN hN' (hB.kids x (mem_of_get hx))) ?_
  rintro u g2 ⟨rfl,rfl⟩
  simp (disch := first|omega|(simp only [zS];first|done|omega)) [bB,aUn,r38_7,wi]
  exact hag (t.results.length - (i + 1)) _ _ (by omega) ⟨i + 1,hlt,rfl,rfl,rfl⟩
 have hie : i = t.results.length := by omega
 subst hie
 simp (disch := first|omega|(simp only [zS];first|done|omega)) [bB,l38_8,r38_4,hb1,lr,r38_9]
 clear hag
 refine loop_rule (fun m e g2 => ∃ i : Nat,i ≤ t.nodes.length ∧ m = t.nodes.length - i ∧ g2 = g1 ∧ e = [(2,.pointer (some ⟨h.size,0,none⟩)),(3,.pointer (some ⟨h.size + 1,0,none⟩)),(6,vi i)]) ?_ (F + 1) (t.nodes.length - 0) _ g1 (by omega) ⟨0,by omega,rfl,rfl,rfl⟩
 rintro m e g2 again' ⟨i,hi,rfl,rfl,rfl⟩ hag
 by_cases hlt : i < t.nodes.length
 ·have hlt' : (i : Int) < t.nodes.length := by omega
  obtain ⟨x,hx⟩ : ∃ x,t.nodes[i]? = some x := ⟨_,List.getElem?_eq_getElem hlt⟩
  have hRr := hR.nodes
  have hSr := hS.nodes
  clear hR hS
  obtain ⟨b,o,cc,cs,es,lv,an,rfl,hg,hl,hr⟩ := sn_at hRr hx
  obtain ⟨b',o',cc',cs',es',lv',an',rfl,hg',hl',hr'⟩ := sn_at hSr hx
  have wi : IntKind.i64.wrap ((i : Int) + 1) = ((i + 1 : Nat) : Int) := by rw [wrap_in (by omega) (by omega)];omega
  simp (disch := first|omega|(simp only [zS];first|done|omega)) [bB,l38_14,r38_10,hb1,hb2,hlt',d38_11,hg,hl,hr,hg',hl',hr',snC,ba_self,r38_13,wi]
  exact hag (t.nodes.length - (i + 1)) _ _ (by omega) ⟨i + 1,hlt,rfl,rfl,rfl⟩
 have hie : i = t.nodes.length := by omega
 subst hie
 simp (disch := first|omega|(simp only [zS];first|done|omega)) [bB,l38_14,r38_10,hb1,ln,r38_15]
 clear hag
 refine loop_rule (fun m e g1 => ∃ i : Nat,i ≤ t.changes.length ∧ m = t.changes.length - i ∧ g1 = g2 ∧ e = [(2,.pointer (some ⟨h.size,0,none⟩)),(3,.pointer (some ⟨h.size + 1,0,none⟩)),(7,vi i)]) ?_ (F + 1) (t.changes.length - 0) _ g2 (by omega) ⟨0,by omega,rfl,rfl,rfl⟩
 rintro m e g1 again'' ⟨i,hi,rfl,rfl,rfl⟩ hag
 by_cases hlt : i < t.changes.length
 ·have hlt' : (i : Int) < t.changes.length := by omega
  obtain ⟨x,hx⟩ : ∃ x,t.changes[i]? = some x := ⟨_,List.getElem?_eq_getElem hlt⟩
  have hRr := hR.changes
  have hSr := hS.changes
  clear hR hS
  obtain ⟨b,o,cc,cs,es,lv,an,nv,rfl,hg,hl,hr,hN⟩ := cg_at hRr hx
  obtain ⟨b',o',cc',cs',es',lv',an',nv',rfl,hg',hl',hr',hN'⟩ := cg_at hSr hx
  have wi : IntKind.i64.wrap ((i : Int) + 1) = ((i + 1 : Nat) : Int) := by rw [wrap_in (by omega) (by omega)];omega
  have p1 := take_sub hr 0 4 (by decide)
  have p1' := take_sub hr' 0 4 (by decide)
  simp only [cgC,List.drop_succ_cons,List.drop_zero,List.take_succ_cons,List.take_zero,List.take_nil,Nat.add_zero] at p1 p1'
  have l1 : o + i * 5 + 4 ≤ cs.length := by omega
  have l1' : o' + i * 5 + 4 ≤ cs'.length := by omega
  simp (disch := first|omega|(simp only [zS];first|done|omega)) [bB,l38_20,r38_16,hb1,hb2,hlt',d38_17,hg,l1,p1,hg',l1',p1',ba_self,r38_19,wi]
  exact hag (t.changes.length - (i + 1)) _ _ (by omega) ⟨i + 1,hlt,rfl,rfl,rfl⟩
 have hie : i = t.changes.length := by omega
 subst hie
 simp (disch := first|omega|(simp only [zS];first|done|omega)) [bB,l38_20,r38_16,hb1,lc,r38_21]
 clear hag
 refine loop_rule (fun m e g2 => ∃ i : Nat,i ≤ t.parts.length ∧ m = t.parts.length - i ∧ g2 = g1 ∧ e = [(2,.pointer (some ⟨h.size,0,none⟩)),(3,.pointer (some ⟨h.size + 1,0,none⟩)),(8,vi i)]) ?_ (F + 1) (t.parts.length - 0) _ g1 (by omega) ⟨0,by omega,rfl,rfl,rfl⟩
 rintro m e g2 again''' ⟨i,hi,rfl,rfl,rfl⟩ hag
 by_cases hlt : i < t.parts.length
 ·have hlt' : (i : Int) < t.parts.length := by omega
  obtain ⟨x,hx⟩ : ∃ x,t.parts[i]? = some x := ⟨_,List.getElem?_eq_getElem hlt⟩
  have hRr := hR.parts
  have hSr := hS.parts
  clear hR hS
  obtain ⟨b,o,cc,cs,es,lv,an,nv,rfl,hg,hl,hr,hN⟩ := pt_at hRr hx
  obtain ⟨b',o',cc',cs',es',lv',an',nv',rfl,hg',hl',hr',hN'⟩ := pt_at hSr hx
  have wi : IntKind.i64.wrap ((i : Int) + 1) = ((i + 1 : Nat) : Int) := by rw [wrap_in (by omega) (by omega)];omega
  have p1 := take_sub hr 4 1 (by decide)
  have p1' := take_sub hr' 4 1 (by decide)
  simp only [ptC,List.drop_succ_cons,List.drop_zero,List.take_succ_cons,List.take_zero,List.take_nil,Nat.add_zero] at p1 p1'
  have l1 : o + i * 5 + 4 + 1 ≤ cs.length := by omega
  have l1' : o' + i * 5 + 4 + 1 ≤ cs'.length := by omega
  have hxn := (hB.pnodes x (mem_of_get hx)).1
  have lN' := hN'.len
  simp (disch := first|omega|(simp only [zS];first|done|omega)) [bB,l38_30,r38_22,hb1,hlt',r38_23]
  refine loop_rule (fun m e g3 => ∃ j : Nat,j ≤ x.nodes.length ∧ m = x.nodes.length - j ∧ g3 = g2 ∧ e = [(2,.pointer (some ⟨h.size,0,none⟩)),(3,.pointer (some ⟨h.size + 1,0,none⟩)),(8,vi i),(9,vi j)]) ?_ (F + 1) (x.nodes.length - 0) _ g2 (by omega) ⟨0,by omega,rfl,rfl,rfl⟩
  rintro m e g3 again4 ⟨j,hj,rfl,rfl,rfl⟩ hag4
  by_cases hjl : j < x.nodes.length
  ·have hjl' : (j : Int) < x.nodes.length := by omega
   obtain ⟨y,hy⟩ : ∃ y,x.nodes[j]? = some y := ⟨_,List.getElem?_eq_getElem hjl⟩
   obtain ⟨b2,o2,cc2,cs2,es2,lv2,an2,rfl,hg2,hl2,hr2⟩ := sn_at hN hy
   obtain ⟨b2',o2',cc2',cs2',es2',lv2',an2',rfl,hg2',hl2',hr2'⟩ := sn_at hN' hy
   have wj : IntKind.i64.wrap ((j : Int) + 1) = ((j + 1 : Nat) : Int) := by rw [wrap_in (by omega) (by omega)];omega
   simp (disch := first|omega|(simp only [zS];first|done|omega)) [bB,l38_28,r38_24,hb1,hb2,hlt',hg',l1',p1',hjl',d38_25,hg,l1,p1,hg2,hl2,hr2,hg2',hl2',hr2',snC,ba_self,r38_27,wj]
   exact hag4 (x.nodes.length - (j + 1)) _ _ (by omega) ⟨j + 1,hjl,rfl,rfl,rfl⟩
  ·have hje : j = x.nodes.length := by omega
   subst hje
   simp (disch := first|omega|(simp only [zS];first|done|omega)) [bB,l38_28,r38_24,hb2,hlt',hg',l1',p1',lN',r38_29,wi]
   exact hag (t.parts.length - (i + 1)) _ _ (by omega) ⟨i + 1,hlt,rfl,rfl,rfl⟩
 have hie : i = t.parts.length := by omega
 subst hie
 simp (disch := first|omega|(simp only [zS];first|done|omega)) [bB,l38_30,r38_22,hb1,lp,r38_31]
 exact Ans.of ⟨k,rfl⟩
end Go.Proofs.YtalamcchkkdelaaGreatDoor
end
section
set_option maxRecDepth 100000
namespace Go.Proofs.YtalamcchkkdelaaGreatDoor
open Go.Ev
section
variable {α β : Type} {enc : α → Value → List Value} {inner : α → List β} {w wi : Nat} {ei : β → List Value} {κ κ' : Kp} {S : Col → Prop} {g g' : H} {f : Nat → Col} {C col : Col}
theorem bld_over {v : Value} {xs : List β} (s : Bld (fun c => κ c = col) w (Pl ei) g v xs) {i : Nat} (hi : i < xs.length) (y : β) (hlen : (ei y).length = w) (hone : (ei y).all oneCell = true) :
  ∃ b cs an g',v = .slice (some ⟨b,0,none⟩) xs.length xs.length ∧ κ b = col ∧ hget g b = some (.cells cs w true an) ∧ i * w + w ≤ cs.length ∧ wr g b (i * w) (ei y) = some g' ∧ Ch κ (· = col) g g' ∧ Bld (fun c => κ c = col) w (Pl ei) g' v (xs.set i y) := by
 have hx : xs[i]? = some xs[i] := List.getElem?_eq_getElem hi
 obtain ⟨b,cs,an,g',e1,e2,e3,e4,_,e6,e7,e8,e9⟩ := s.put (o := 0) hx (new := ei y) (by omega) hone
 refine ⟨b,cs,an,g',e1,e4,e2,e3,e6,⟨e8.1,fun c hc hn => e8.2 c hc hn⟩,e9 y (fun _ _ _ _ _ q => q) ?_⟩
 show _ = ei y
 rw [List.take_zero,List.nil_append,Nat.zero_add,hlen,List.drop_of_length_le (by rw [List.length_take];omega),List.append_nil]
theorem elw_set (l : List α) (i : Nat) (x : α) : (elw f l).set i (x,f i) = elw f (l.set i x) := by
 apply List.ext_getElem?
 intro j
 rw [elw_get]
 by_cases e : i = j
 ·subst e
  by_cases hi : i < l.length
  ·rw [List.getElem?_set_self (by rw [elw_len];exact hi),List.getElem?_set_self hi];rfl
  ·rw [List.getElem?_eq_none (by rw [List.length_set,elw_len];omega),List.getElem?_eq_none (by rw [List.length_set];omega)];rfl
 ·rw [List.getElem?_set_ne e,List.getElem?_set_ne e,elw_get]
theorem nest_over {lv : Value} {l : List α} (s : Bld (fun c => κ c = C) w (El enc inner wi ei κ) g lv (elw f l)) {i : Nat} (hi : i < l.length) (x' : α) (hin : inner x' = []) (hlen : (enc x' (.slice none 0 0)).length = w) (hone : (enc x' (.slice none 0 0)).all oneCell = true) (hf : ∀ k,f k ≠ C) :
  ∃ b cs an g',lv = .slice (some ⟨b,0,none⟩) l.length l.length ∧ κ b = C ∧ hget g b = some (.cells cs w true an) ∧ i * w + w ≤ cs.length ∧ wr g b (i * w) (enc x' (.slice none 0 0)) = some g' ∧ Ch κ (· = C) g g' ∧
   Bld (fun c => κ c = C) w (El enc inner wi ei κ) g' lv (elw f (l.set i x')) := by
 have hx : (elw f l)[i]? = some (l[i],f i) := by rw [elw_get,List.getElem?_eq_getElem hi];rfl
 obtain ⟨b,cs,an,g',e1,e2,e3,e4,_,e6,e7,e8,e9⟩ := s.put (o := 0) hx (new := enc x' (.slice none 0 0)) (by omega) hone
 have ch : Ch κ (· = C) g g' := ⟨e8.1,fun c hc hn => e8.2 c hc hn⟩
 rw [elw_len] at e1
 refine ⟨b,cs,an,g',e1,e4,e2,e3,e6,ch,?_⟩
 rw [← elw_set]
 refine e9 (x',f i) (fun cs' j z hz hne q => q.tr ch ?_ (Agr.refl _ _)) ⟨.slice none 0 0,?_,by rw [hin];exact Bld.nil _ _ _ _⟩
 ·rw [elw_get] at hz
  obtain ⟨z',_,rfl⟩ := Option.map_eq_some_iff.1 hz
  exact hf j
 ·rw [List.take_zero,List.nil_append,Nat.zero_add,hlen,List.drop_of_length_le (by rw [List.length_take];omega),List.append_nil]
theorem nest_turn {lv v : Value} {l : List α} {i b : Nat} {x x' : α} {cs : List Value} {an : List Nat} (s : Bld (fun c => κ c = C) w (El enc inner wi ei κ) g lv (elw f l)) (hx : l[i]? = some x) (hf : ∀ k,f k ≠ C) (hinj : ∀ j,j ≠ i → f j ≠ f i)
  (k : Ch κ (· = f i) g g') (hb : lv = .slice (some ⟨b,0,none⟩) l.length l.length) (hg : hget g b = some (.cells cs w true an)) (he : (cs.drop (i * w)).take w = enc x v) (hv : Bld (fun c => κ c = f i) wi (Pl ei) g' v (inner x')) (hen : enc x' v = enc x v) :
  Bld (fun c => κ c = C) w (El enc inner wi ei κ) g' lv (elw f (l.set i x')) := by
 have hil := (List.getElem?_eq_some_iff.1 hx).1
 rcases s with ⟨_,e'⟩ | ⟨b',cs',an',e,⟨hk,ha⟩,hg',hl,hi⟩
 ·have := congrArg List.length e'
  rw [elw_len] at this
  simp at this
  subst this
  simp at hil
 ·rw [elw_len] at e hl
  rw [hb] at e
  injection e with e1
  injection e1 with e1
  injection e1 with e1
  subst e1
  obtain rfl := row_inj hg hg'
  refine .inr ⟨b,cs',an',by rw [elw_len,List.length_set];exact hb,⟨hk,ha⟩,k.get hg' (by rw [hk];exact fun q => hf i q.symm),by rw [elw_len,List.length_set];exact hl,fun j y hy => ?_⟩
  rw [← elw_set] at hy
  by_cases ej : j = i
  ·subst ej
   rw [List.getElem?_set_self (by rw [elw_len];exact hil)] at hy
   cases hy
   exact ⟨v,he.trans hen.symm,hv⟩
  ·rw [List.getElem?_set_ne (fun q => ej q.symm)] at hy
   refine (hi j y hy).tr k ?_ (Agr.refl _ _)
   rw [elw_get] at hy
   obtain ⟨z',_,rfl⟩ := Option.map_eq_some_iff.1 hy
   exact hinj j ej
end
end Go.Proofs.YtalamcchkkdelaaGreatDoor
end
section
set_option maxRecDepth 100000
namespace Go.Proofs.YtalamcchkkdelaaGreatDoor
open Go.Ev
variable {F : Nat} {h : H}
section
variable {G : Nat} {cx : Cx} {κ : Kp} {g : H} {tb : Nat} {t : Td} {vo vr vc vp vn : Value} {kn kr : K} {ke : Nat → K} {Q : Value → H → Prop}
def op99 : Opv := ⟨99,⟨#[]⟩,⟨#[]⟩,0,0⟩
def snSp : Sn := ⟨str115_112_111_105_108_116,⟨#[]⟩,0⟩
def rzSp : Rz := ⟨str115_112_111_105_108_116,⟨#[]⟩,0,0,0,0,[]⟩
def cgSp : Cg := ⟨0,⟨#[]⟩,⟨#[]⟩,0,[]⟩
set_option maxHeartbeats 1000000 in
theorem spO (hT : hget g tb = some (.cells (tdC t vo vr vc vp vn) 0 true [])) (hκt : κ tb = 0) {xs0 : List Opv} (hB : Bld (fun c => κ c = 1) 5 (Pl opC) g vo xs0) (hn : xs0.length ≤ 2097152) (hG : 4194304 ≤ G)
  (hkn : ∀ g',Ch κ (· = 1) g g' → Ans (kn [(1,.pointer (some ⟨tb,0,none⟩)),(2,vi xs0.length),(13,.bool false)] g' []) Q) :
  Ans (loopK G cx [1,2] l40_5 (putK 0 kn ke) kr G [(1,.pointer (some ⟨tb,0,none⟩)),(2,vi 0)] g []) Q := by
 refine loop_rule (fun m e g1 => ∃ (i : Nat) (xs : List Opv),i ≤ xs0.length ∧ m = xs0.length - i ∧ xs.length = xs0.length ∧ Ch κ (· = 1) g g1 ∧ e = [(1,.pointer (some ⟨tb,0,none⟩)),(2,vi i)] ∧ Bld (fun c => κ c = 1) 5 (Pl opC) g1 vo xs)
  ?_ G (xs0.length - 0) _ g (by omega) ⟨0,xs0,by omega,rfl,rfl,Ch.refl _ _ _,rfl,hB⟩
 rintro m e g1 again ⟨i,xs,hi,rfl,hxl,hc,rfl,hL⟩ hag
 have hT1 := hc.get hT (by rw [hκt];decide)
 simp only [tdC] at hT1
 have ll := hL.sl.len
 rw [hxl] at ll
 by_cases hlt : i < xs0.length
 ·have hlt' : (i : Int) < xs0.length := by omega
  have wi : IntKind.i64.wrap ((i : Int) + 1) = ((i + 1 : Nat) : Int) := by rw [wrap_in (by omega) (by omega)];omega
  obtain ⟨b,cs,an,g2,rfl,q1,q2,q3,q4,q5,q6⟩ := bld_over hL (by rw [hxl];exact hlt) op99 rfl rfl
  rw [hxl] at hT1 ll
  simp only [opC,op99] at q4
  simp (disch := first|omega|(simp only [zS];first|done|omega)) [bB,l40_5,r40_2,hT1,hlt',r40_3,-wr,q4,r40_4,wi]
  exact hag (xs0.length - (i + 1)) _ _ (by omega) ⟨i + 1,_,hlt,rfl,by rw [List.length_set];exact hxl,hc.trans q5 (Agr.refl _ _),rfl,q6⟩
 ·have hie : i = xs0.length := by omega
  simp (disch := first|omega|(simp only [zS];first|done|omega)) [bB,l40_5,r40_2,hT1,ll,hie]
  exact hkn g1 hc
set_option maxHeartbeats 1000000 in
theorem spN (hT : hget g tb = some (.cells (tdC t vo vr vc vp vn) 0 true [])) (hκt : κ tb = 0) {xs0 : List Sn} (hB : Bld (fun c => κ c = 3) 3 (Pl snC) g vn xs0) (hn : xs0.length ≤ 2097152) (hG : 4194304 ≤ G)
  (hkn : ∀ g',Ch κ (· = 3) g g' → Ans (kn [(1,.pointer (some ⟨tb,0,none⟩)),(5,vi xs0.length),(62,.bool false)] g' []) Q) :
  Ans (loopK G cx [1,5] l40_20 (putK 6 kn ke) kr G [(1,.pointer (some ⟨tb,0,none⟩)),(5,vi 0)] g []) Q := by
 refine loop_rule (fun m e g1 => ∃ (i : Nat) (xs : List Sn),i ≤ xs0.length ∧ m = xs0.length - i ∧ xs.length = xs0.length ∧ Ch κ (· = 3) g g1 ∧ e = [(1,.pointer (some ⟨tb,0,none⟩)),(5,vi i)] ∧ Bld (fun c => κ c = 3) 3 (Pl snC) g1 vn xs)
  ?_ G (xs0.length - 0) _ g (by omega) ⟨0,xs0,by omega,rfl,rfl,Ch.refl _ _ _,rfl,hB⟩
 rintro m e g1 again ⟨i,xs,hi,rfl,hxl,hc,rfl,hL⟩ hag
 have hT1 := hc.get hT (by rw [hκt];decide)
 simp only [tdC] at hT1
 have ll := hL.sl.len
 rw [hxl] at ll
 by_cases hlt : i < xs0.length
 ·have hlt' : (i : Int) < xs0.length := by omega
  have wi : IntKind.i64.wrap ((i : Int) + 1) = ((i + 1 : Nat) : Int) := by rw [wrap_in (by omega) (by omega)];omega
  obtain ⟨b,cs,an,g2,rfl,q1,q2,q3,q4,q5,q6⟩ := bld_over hL (by rw [hxl];exact hlt) snSp rfl rfl
  rw [hxl] at hT1 ll
  simp only [snC,snSp] at q4
  simp (disch := first|omega|(simp only [zS];first|done|omega)) [bB,l40_20,r40_17,hT1,hlt',r40_18,-wr,q4,r40_19,wi]
  exact hag (xs0.length - (i + 1)) _ _ (by omega) ⟨i + 1,_,hlt,rfl,by rw [List.length_set];exact hxl,hc.trans q5 (Agr.refl _ _),rfl,q6⟩
 ·have hie : i = xs0.length := by omega
  simp (disch := first|omega|(simp only [zS];first|done|omega)) [bB,l40_20,r40_17,hT1,ll,hie]
  exact hkn g1 hc
set_option maxHeartbeats 1000000 in
theorem spC (hT : hget g tb = some (.cells (tdC t vo vr vc vp vn) 0 true [])) (hκt : κ tb = 0) {xs0 : List Cg} (hB : CgB κ g vc xs0) (hn : xs0.length ≤ 2097152) (hG : 4194304 ≤ G)
  (hkn : ∀ g',Ch κ (· = 4) g g' → Ans (kn [(1,.pointer (some ⟨tb,0,none⟩)),(6,vi xs0.length),(77,.bool false)] g' []) Q) :
  Ans (loopK G cx [1,6] l40_25 (putK 8 kn ke) kr G [(1,.pointer (some ⟨tb,0,none⟩)),(6,vi 0)] g []) Q := by
 refine loop_rule (fun m e g1 => ∃ (i : Nat) (xs : List Cg),i ≤ xs0.length ∧ m = xs0.length - i ∧ xs.length = xs0.length ∧ Ch κ (· = 4) g g1 ∧ e = [(1,.pointer (some ⟨tb,0,none⟩)),(6,vi i)] ∧ CgB κ g1 vc xs)
  ?_ G (xs0.length - 0) _ g (by omega) ⟨0,xs0,by omega,rfl,rfl,Ch.refl _ _ _,rfl,hB⟩
 rintro m e g1 again ⟨i,xs,hi,rfl,hxl,hc,rfl,hL⟩ hag
 have hT1 := hc.get hT (by rw [hκt];decide)
 simp only [tdC] at hT1
 have ll := hL.sl.len
 rw [elw_len,hxl] at ll
 by_cases hlt : i < xs0.length
 ·have hlt' : (i : Int) < xs0.length := by omega
  have wi : IntKind.i64.wrap ((i : Int) + 1) = ((i + 1 : Nat) : Int) := by rw [wrap_in (by omega) (by omega)];omega
  obtain ⟨b,cs,an,g2,rfl,q1,q2,q3,q4,q5,q6⟩ := nest_over hL (by rw [hxl];exact hlt) cgSp rfl rfl rfl (fun k => by show (7 + 3 * k : Nat) ≠ 4;omega)
  rw [hxl] at hT1 ll
  simp only [cgC,cgSp] at q4
  simp (disch := first|omega|(simp only [zS];first|done|omega)) [bB,l40_25,r40_22,hT1,hlt',r40_23,-wr,q4,r40_24,wi]
  exact hag (xs0.length - (i + 1)) _ _ (by omega) ⟨i + 1,_,hlt,rfl,by rw [List.length_set];exact hxl,hc.trans q5 (Agr.refl _ _),rfl,q6⟩
 ·have hie : i = xs0.length := by omega
  simp (disch := first|omega|(simp only [zS];first|done|omega)) [bB,l40_25,r40_22,hT1,ll,hie]
  exact hkn g1 hc
end
end Go.Proofs.YtalamcchkkdelaaGreatDoor
end
section
set_option maxRecDepth 100000
namespace Go.Proofs.YtalamcchkkdelaaGreatDoor
open Go.Ev
variable {F : Nat} {h : H}
section
variable {G : Nat} {cx : Cx} {κ : Kp} {g : H} {tb : Nat} {t : Td} {vo vr vc vp vn : Value} {kn kr : K} {ke : Nat → K} {Q : Value → H → Prop}
def SR (c : Col) : Prop := c = 2 ∨ ∃ k,c = 6 + 3 * k
def SP (c : Col) : Prop := c = 5 ∨ ∃ k,c = 8 + 3 * k
theorem not_SR {c : Nat} (h2 : c ≠ 2) (h6 : ∀ k,c ≠ 6 + 3 * k) : ¬ SR c := by
 rintro (q | ⟨k,q⟩)
 ·exact h2 q
 ·exact h6 k q
theorem not_SP {c : Nat} (h2 : c ≠ 5) (h6 : ∀ k,c ≠ 8 + 3 * k) : ¬ SP c := by
 rintro (q | ⟨k,q⟩)
 ·exact h2 q
 ·exact h6 k q
set_option maxHeartbeats 2000000 in
theorem spR (hT : hget g tb = some (.cells (tdC t vo vr vc vp vn) 0 true [])) (hκt : κ tb = 0) {xs0 : List Rz} (hB : RzB κ g vr xs0) (hn : xs0.length ≤ 2097152) (hkd : ∀ x ∈ xs0,x.kids.length ≤ 2097152) (hG : 4194304 ≤ G)
  (hkn : ∀ g',Ch κ SR g g' → Ans (kn [(1,.pointer (some ⟨tb,0,none⟩)),(3,vi xs0.length),(26,.bool false)] g' []) Q) :
  Ans (loopK G cx [1,3] l40_15 (putK 2 kn ke) kr G [(1,.pointer (some ⟨tb,0,none⟩)),(3,vi 0)] g []) Q := by
 refine loop_rule (fun m e g1 => ∃ (i : Nat) (xs : List Rz),i ≤ xs0.length ∧ m = xs0.length - i ∧ xs.length = xs0.length ∧ (∀ x ∈ xs,x.kids.length ≤ 2097152) ∧ Ch κ SR g g1 ∧ e = [(1,.pointer (some ⟨tb,0,none⟩)),(3,vi i)] ∧ RzB κ g1 vr xs)
  ?_ G (xs0.length - 0) _ g (by omega) ⟨0,xs0,by omega,rfl,rfl,hkd,Ch.refl _ _ _,rfl,hB⟩
 rintro m e g1 again ⟨i,xs,hi,rfl,hxl,hkx,hc,rfl,hL⟩ hag
 have hT1 := hc.get hT (by rw [hκt];exact not_SR (by decide) fun k => by omega)
 have hT1' := hT1
 simp only [tdC] at hT1'
 have ll := hL.sl.len
 rw [elw_len,hxl] at ll
 by_cases hlt : i < xs0.length
 ·have hlt' : (i : Int) < xs0.length := by omega
  have wi : IntKind.i64.wrap ((i : Int) + 1) = ((i + 1 : Nat) : Int) := by rw [wrap_in (by omega) (by omega)];omega
  obtain ⟨x,hx⟩ : ∃ x,xs[i]? = some x := ⟨_,List.getElem?_eq_getElem (by omega)⟩
  have hf : ∀ k : Nat,(fun k => 6 + 3 * k : Nat → Col) k ≠ 2 := fun k => by show (6 + 3 * k : Nat) ≠ 2;omega
  obtain ⟨b,cs,an,v,e,hκb,hg,hl,he,hin⟩ := nest_at hL hx
  have hxn := hkx x (mem_of_get hx)
  have p6 := take_sub he 6 1 (by decide)
  simp only [rzC,List.drop_succ_cons,List.drop_zero,List.take_succ_cons,List.take_zero,List.take_nil] at p6
  have l6 : i * 7 + 6 + 1 ≤ cs.length := by omega
  have e' := e
  rw [hxl] at e'
  rw [e'] at hT1'
  simp (disch := first|omega|(simp only [zS];first|done|omega)) [bB,l40_15,r40_7,hT1',hlt',r40_8]
  refine loop_rule (fun m e g2 => ∃ (j : Nat) (ys : List ByteArray),j ≤ x.kids.length ∧ m = x.kids.length - j ∧ ys.length = x.kids.length ∧ Ch κ (· = 6 + 3 * i) g1 g2 ∧ e = [(1,.pointer (some ⟨tb,0,none⟩)),(3,vi i),(4,vi j)] ∧ Bld (fun c => κ c = 6 + 3 * i) 1 (Pl fun s => [Value.string s]) g2 v ys)
   ?_ G (x.kids.length - 0) _ g1 (by omega) ⟨0,x.kids,by omega,rfl,rfl,Ch.refl _ _ _,rfl,hin⟩
  rintro m e2 g2 again2 ⟨j,ys,hj,rfl,hyl,hc2,rfl,hY⟩ hag2
  have hT2 := hc2.get hT1' (by rw [hκt];intro q;have q' : (0 : Nat) = 6 + 3 * i := q;omega)
  have hg2 := hc2.get hg (by rw [hκb];intro q;have q' : (2 : Nat) = 6 + 3 * i := q;omega)
  have ly := hY.sl.len
  rw [hyl] at ly
  by_cases hjl : j < x.kids.length
  ·have hjl' : (j : Int) < x.kids.length := by omega
   have wj : IntKind.i64.wrap ((j : Int) + 1) = ((j + 1 : Nat) : Int) := by rw [wrap_in (by omega) (by omega)];omega
   obtain ⟨b2,cs2,an2,g3,e3,q1,q2,q3,q4,q5,q6⟩ := bld_over hY (by rw [hyl];exact hjl) str115_112_111_105_108_116 rfl rfl
   rw [hyl] at e3
   rw [Nat.mul_one] at q4
   rw [e3] at p6 ly
   simp (disch := first|omega|(simp only [zS];first|done|omega)) [bB,l40_12,r40_9,hT2,hlt',hg2,l6,p6,hjl',r40_10,-wr,q4,r40_11,wj]
   rw [← e3] at p6
   exact hag2 (x.kids.length - (j + 1)) _ _ (by omega) ⟨j + 1,_,hjl,rfl,by rw [List.length_set];exact hyl,hc2.trans q5 (Agr.refl _ _),rfl,q6⟩
  ·have hje : j = x.kids.length := by omega
   have hL2 := nest_turn (x' := { x with kids := ys }) hL hx hf (fun k hk => by show (6 + 3 * k : Nat) ≠ 6 + 3 * i;omega) hc2 e hg he hY rfl
   obtain ⟨b4,cs4,an4,g4,e4,q1,q2,q3,q4,q5,q6⟩ := nest_over hL2 (i := i) (by rw [List.length_set];omega) rzSp rfl rfl rfl hf
   rw [List.length_set,hxl] at e4
   rw [e'] at e4
   injection e4 with z1
   injection z1 with z1
   injection z1 with z1
   subst z1
   simp only [rzC,rzSp] at q4
   simp (disch := first|omega|(simp only [zS];first|done|omega)) [bB,l40_12,r40_9,hT2,hlt',hg2,l6,p6,ly,hje,r40_13,-wr,q4,r40_14,wi]
   refine hag (xs0.length - (i + 1)) _ _ (by omega) ⟨i + 1,_,hlt,rfl,by rw [List.length_set,List.length_set];exact hxl,?_,(hc.trans (hc2.weak fun c q => .inr ⟨i,q⟩) (Agr.refl _ _)).trans (q5.weak fun c q => .inl q) (Agr.refl _ _),rfl,q6⟩
   intro y hy
   rcases List.mem_or_eq_of_mem_set hy with hy | rfl
   ·rcases List.mem_or_eq_of_mem_set hy with hy | rfl
    ·exact hkx y hy
    ·show ys.length ≤ _
     omega
   ·show ([] : List ByteArray).length ≤ _
    simp
 ·have hie : i = xs0.length := by omega
  simp (disch := first|omega|(simp only [zS];first|done|omega)) [bB,l40_15,r40_7,hT1',ll,hie]
  exact hkn g1 hc
set_option maxHeartbeats 2000000 in
theorem spP (hT : hget g tb = some (.cells (tdC t vo vr vc vp vn) 0 true [])) (hκt : κ tb = 0) {xs0 : List Pt} (hB : PtB κ g vp xs0) (hn : xs0.length ≤ 2097152) (hkd : ∀ x ∈ xs0,x.nodes.length ≤ 2097152) (hG : 4194304 ≤ G)
  (hkn : ∀ g',Ch κ SP g g' → Ans (kn [(1,.pointer (some ⟨tb,0,none⟩)),(7,vi xs0.length),(91,.bool false)] g' []) Q) :
  Ans (loopK G cx [1,7] l40_34 (putK 10 kn ke) kr G [(1,.pointer (some ⟨tb,0,none⟩)),(7,vi 0)] g []) Q := by
 refine loop_rule (fun m e g1 => ∃ (i : Nat) (xs : List Pt),i ≤ xs0.length ∧ m = xs0.length - i ∧ xs.length = xs0.length ∧ (∀ x ∈ xs,x.nodes.length ≤ 2097152) ∧ Ch κ SP g g1 ∧ e = [(1,.pointer (some ⟨tb,0,none⟩)),(7,vi i)] ∧ PtB κ g1 vp xs)
  ?_ G (xs0.length - 0) _ g (by omega) ⟨0,xs0,by omega,rfl,rfl,hkd,Ch.refl _ _ _,rfl,hB⟩
 rintro m e g1 again ⟨i,xs,hi,rfl,hxl,hkx,hc,rfl,hL⟩ hag
 have hT1 := hc.get hT (by rw [hκt];exact not_SP (by decide) fun k => by omega)
 have hT1' := hT1
 simp only [tdC] at hT1'
 have ll := hL.sl.len
 rw [elw_len,hxl] at ll
 by_cases hlt : i < xs0.length
 ·have hlt' : (i : Int) < xs0.length := by omega
  have wi : IntKind.i64.wrap ((i : Int) + 1) = ((i + 1 : Nat) : Int) := by rw [wrap_in (by omega) (by omega)];omega
  obtain ⟨x,hx⟩ : ∃ x,xs[i]? = some x := ⟨_,List.getElem?_eq_getElem (by omega)⟩
  have hf : ∀ k : Nat,(fun k => 8 + 3 * k : Nat → Col) k ≠ 5 := fun k => by show (8 + 3 * k : Nat) ≠ 5;omega
  obtain ⟨b,cs,an,v,e,hκb,hg,hl,he,hin⟩ := nest_at hL hx
  have hxn := hkx x (mem_of_get hx)
  have p6 := take_sub he 4 1 (by decide)
  simp only [ptC,List.drop_succ_cons,List.drop_zero,List.take_succ_cons,List.take_zero,List.take_nil] at p6
  have l6 : i * 5 + 4 + 1 ≤ cs.length := by omega
  have e' := e
  rw [hxl] at e'
  rw [e'] at hT1'
  simp (disch := first|omega|(simp only [zS];first|done|omega)) [bB,l40_34,r40_27,hT1',hlt',r40_28]
  refine loop_rule (fun m e g2 => ∃ (j : Nat) (ys : List Sn),j ≤ x.nodes.length ∧ m = x.nodes.length - j ∧ ys.length = x.nodes.length ∧ Ch κ (· = 8 + 3 * i) g1 g2 ∧ e = [(1,.pointer (some ⟨tb,0,none⟩)),(7,vi i),(8,vi j)] ∧ Bld (fun c => κ c = 8 + 3 * i) 3 (Pl snC) g2 v ys)
   ?_ G (x.nodes.length - 0) _ g1 (by omega) ⟨0,x.nodes,by omega,rfl,rfl,Ch.refl _ _ _,rfl,hin⟩
  rintro m e2 g2 again2 ⟨j,ys,hj,rfl,hyl,hc2,rfl,hY⟩ hag2
  have hT2 := hc2.get hT1' (by rw [hκt];intro q;have q' : (0 : Nat) = 8 + 3 * i := q;omega)
  have hg2 := hc2.get hg (by rw [hκb];intro q;have q' : (5 : Nat) = 8 + 3 * i := q;omega)
  have ly := hY.sl.len
  rw [hyl] at ly
  by_cases hjl : j < x.nodes.length
  ·have hjl' : (j : Int) < x.nodes.length := by omega
   have wj : IntKind.i64.wrap ((j : Int) + 1) = ((j + 1 : Nat) : Int) := by rw [wrap_in (by omega) (by omega)];omega
   obtain ⟨b2,cs2,an2,g3,e3,q1,q2,q3,q4,q5,q6⟩ := bld_over hY (by rw [hyl];exact hjl) snSp rfl rfl
   rw [hyl] at e3
   simp only [snC,snSp] at q4
   rw [e3] at p6 ly
   simp (disch := first|omega|(simp only [zS];first|done|omega)) [bB,l40_32,r40_29,hT2,hlt',hg2,l6,p6,hjl',r40_30,-wr,q4,r40_31,wj]
   rw [← e3] at p6
   exact hag2 (x.nodes.length - (j + 1)) _ _ (by omega) ⟨j + 1,_,hjl,rfl,by rw [List.length_set];exact hyl,hc2.trans q5 (Agr.refl _ _),rfl,q6⟩
  ·have hje : j = x.nodes.length := by omega
   have hL2 := nest_turn (x' := { x with nodes := ys }) hL hx hf (fun k hk => by show (8 + 3 * k : Nat) ≠ 8 + 3 * i;omega) hc2 e hg he hY rfl
   simp (disch := first|omega|(simp only [zS];first|done|omega)) [bB,l40_32,r40_29,hT2,hlt',hg2,l6,p6,ly,hje,r40_33,wi]
   refine hag (xs0.length - (i + 1)) _ _ (by omega) ⟨i + 1,_,hlt,rfl,by rw [List.length_set];exact hxl,?_,hc.trans (hc2.weak fun c q => .inr ⟨i,q⟩) (Agr.refl _ _),rfl,hL2⟩
   intro y hy
   rcases List.mem_or_eq_of_mem_set hy with hy | rfl
   ·exact hkx y hy
   ·show ys.length ≤ _
    omega
 ·have hie : i = xs0.length := by omega
  simp (disch := first|omega|(simp only [zS];first|done|omega)) [bB,l40_34,r40_27,hT1',ll,hie]
  exact hkn g1 hc
end
end Go.Proofs.YtalamcchkkdelaaGreatDoor
end
section
set_option maxRecDepth 100000
namespace Go.Proofs.YtalamcchkkdelaaGreatDoor
open Go.Ev
variable {F : Nat} {h : H}
def SpV (κ : Kp) (h : H) (v : Value) (h' : H) : Prop := v = .tuple ⟨[]⟩ ∧ h.size ≤ h'.size ∧ ∀ c,c < h.size → κ c = 0 → hget h' c = hget h c
set_option maxHeartbeats 2000000 in
theorem spoil_spec {vo vr vc vp vn : Value} {t : Td} {κ : Kp} (hO : Own κ h t vo vr vc vp vn) (hB : TdB t) (hF : Big F) : Ans (cf (F + 1) 40 [.agg ⟨tdC t vo vr vc vp vn⟩] h) (SpV κ h) := by
 rw [cf_step (a := a40) rfl rfl (by simp [a40])]
 unfold Big at hF
 have k1 := rowKept h (tdC t vo vr vc vp vn) 0 []
 have hbx : hget (Ev.newRow h (tdC t vo vr vc vp vn) 0 []) h.size = some (.cells (tdC t vo vr vc vp vn) 0 true []) := by simp
 have ag : Agr h.size κ (ext κ h.size 0) := Agr.ext (Nat.le_refl _)
 have κt : ext κ h.size 0 h.size = 0 := ext_ge (Nat.le_refl _)
 have hO := hO.tr (Ch.of k1) ag
 simp (disch := first|omega|(simp only [zS];first|done|omega)) [bB,a40,r40_0,r40_1]
 generalize Ev.newRow h (tdC t vo vr vc vp vn) 0 [] = g0 at *
 generalize ext κ h.size 0 = κ0 at *
 refine spO hbx κt hO.ops hB.ops (by omega) fun g1 c1 => ?_
 have hb1 := c1.get hbx (by rw [κt];decide)
 have rz1 := nest_tr hO.results c1 (by decide) (fun i => by show ¬ (6 + 3 * i : Nat) = 1;omega) (Agr.refl _ _)
 have nd1 := bld_tr hO.nodes c1 (by decide) (Agr.refl _ _)
 have cg1 := nest_tr hO.changes c1 (by decide) (fun i => by show ¬ (7 + 3 * i : Nat) = 1;omega) (Agr.refl _ _)
 have pt1 := nest_tr hO.parts c1 (by decide) (fun i => by show ¬ (8 + 3 * i : Nat) = 1;omega) (Agr.refl _ _)
 simp (disch := first|omega|(simp only [zS];first|done|omega)) [bB,r40_6]
 refine spR hb1 κt rz1 hB.results hB.kids (by omega) fun g2 c2 => ?_
 have hb2 := c2.get hb1 (by rw [κt];exact not_SR (by decide) fun k => by omega)
 have nd2 := bld_tr nd1 c2 (not_SR (by decide) fun k => by omega) (Agr.refl _ _)
 have cg2 := nest_tr cg1 c2 (not_SR (by decide) fun k => by omega) (fun i => not_SR (c := 7 + 3 * i) (by omega) fun k => by omega) (Agr.refl _ _)
 have pt2 := nest_tr pt1 c2 (not_SR (by decide) fun k => by omega) (fun i => not_SR (c := 8 + 3 * i) (by omega) fun k => by omega) (Agr.refl _ _)
 simp (disch := first|omega|(simp only [zS];first|done|omega)) [bB,r40_16]
 refine spN hb2 κt nd2 hB.nodes.1 (by omega) fun g3 c3 => ?_
 have hb3 := c3.get hb2 (by rw [κt];decide)
 have cg3 := nest_tr cg2 c3 (by decide) (fun i => by show ¬ (7 + 3 * i : Nat) = 3;omega) (Agr.refl _ _)
 have pt3 := nest_tr pt2 c3 (by decide) (fun i => by show ¬ (8 + 3 * i : Nat) = 3;omega) (Agr.refl _ _)
 simp (disch := first|omega|(simp only [zS];first|done|omega)) [bB,r40_21]
 refine spC hb3 κt cg3 hB.changes (by omega) fun g4 c4 => ?_
 have hb4 := c4.get hb3 (by rw [κt];decide)
 have pt4 := nest_tr pt3 c4 (by decide) (fun i => by show ¬ (8 + 3 * i : Nat) = 4;omega) (Agr.refl _ _)
 simp (disch := first|omega|(simp only [zS];first|done|omega)) [bB,r40_26]
 refine spP hb4 κt pt4 hB.parts (fun p hp => (hB.pnodes p hp).1) (by omega) fun g5 c5 => ?_
 simp (disch := first|omega|(simp only [zS];first|done|omega)) [bB]
 refine Ans.of ⟨rfl,?_,fun c hc h0 => ?_⟩
 ·have := k1.1;have := c1.1;have := c2.1;have := c3.1;have := c4.1;have := c5.1;omega
 ·have z : κ0 c = 0 := (ag c hc).trans h0
  have s0 := k1.1
  have s1 := c1.1
  have s2 := c2.1
  have s3 := c3.1
  have s4 := c4.1
  rw [c5.2 c (by omega) (by rw [z];exact not_SP (by decide) fun k => by omega),c4.2 c (by omega) (by rw [z];decide),c3.2 c (by omega) (by rw [z];decide),c2.2 c (by omega) (by rw [z];exact not_SR (by decide) fun k => by omega),c1.2 c (by omega) (by rw [z];decide)]
  exact k1.2 c hc (by simp)
end Go.Proofs.YtalamcchkkdelaaGreatDoor
end
section
set_option maxRecDepth 100000
namespace Go.Proofs.YtalamcchkkdelaaGreatDoor
open Go.Ev
variable {F : Nat} {h : H}
def StB (k : Nat) (h : H) (v : Value) (h' : H) : Prop := Kept h h' [] ∧ ∃ s,v = .string s ∧ slen s ≤ k
set_option maxHeartbeats 4000000 in
theorem five_spec (n : Int) (hF : 200 ≤ F) : Ans (cf (F + 1) 108 [vi n] h) (StB 5 h) := by
 rw [cf_step (a := a108) rfl rfl (by simp [a108])]
 have key : ∀ (n : Int) (r : Env),Ans (evC F (cxOf (cf F) (cfX XD) [.tmp 2]) (.seq (.region r108_3 [0,3]) (.seq (.seq (.region r108_4 [0,3,4]) (.block 0 (.loop [0,3,4] l108_9))) (.seq (.region r108_10 [2]) .ret))) (endK (cfX XD) [.tmp 2]) noK (endK (cfX XD) [.tmp 2]) ((0,vi n) :: r) h []) (StB 5 h) := by
  intro n r
  have k1 := rowKept h [.int .u8 0,.int .u8 0,.int .u8 0,.int .u8 0,.int .u8 0] 1 []
  have hb : hget (Ev.newRow h [.int .u8 0,.int .u8 0,.int .u8 0,.int .u8 0,.int .u8 0] 1 []) h.size = some (.cells [.int .u8 0,.int .u8 0,.int .u8 0,.int .u8 0,.int .u8 0] 1 true []) := by simp
  simp (disch := first|omega|(simp only [zS];first|done|omega)) [bB,r108_3,r108_4]
  generalize Ev.newRow h [.int .u8 0,.int .u8 0,.int .u8 0,.int .u8 0,.int .u8 0] 1 [] = g0 at *
  refine loop_rule (fun m e g => ∃ (k : Nat) (n a b c d f : Int),k ≤ 5 ∧ m = k ∧ Kept h g [] ∧ hget g h.size = some (.cells [.int .u8 a,.int .u8 b,.int .u8 c,.int .u8 d,.int .u8 f] 1 true []) ∧ e = [(0,vi n),(3,.slice (some ⟨h.size,0,none⟩) 5 5),(4,vi ((k : Int) - 1))])
   ?_ F 5 _ g0 (by omega) ⟨5,n,0,0,0,0,0,by omega,rfl,k1,hb,rfl⟩
  rintro m e g again ⟨k,n,a,b,c,d,f,hk,hmk,hkg,hg,rfl⟩ hag
  have hs := lt_of_get hg
  have nx : ∀ (k' : Nat) (n' a' b' c' d' f' : Int),k' < k → k' ≤ 5 → Ans (again [(0,vi n'),(3,.slice (some ⟨h.size,0,none⟩) 5 5),(4,vi ((k' : Int) - 1))] (g.setIfInBounds h.size (.cells [.int .u8 a',.int .u8 b',.int .u8 c',.int .u8 d',.int .u8 f'] 1 true [])) []) (StB 5 h) := fun k' n' a' b' c' d' f' h1 h2 =>
   hag k' _ _ (by omega) ⟨k',n',a',b',c',d',f',h2,rfl,kept_set hkg (Nat.le_refl _),by simp [hs],rfl⟩
  rcases (show k = 0 ∨ k = 1 ∨ k = 2 ∨ k = 3 ∨ k = 4 ∨ k = 5 by omega) with rfl | rfl | rfl | rfl | rfl | rfl
  ·simp (disch := first|omega|(simp only [zS];first|done|omega)) [bB,l108_9,r108_5,r108_10,hg,strOf]
   exact Ans.of ⟨hkg,_,rfl,Nat.le_refl _⟩
  all_goals
   simp (disch := first|omega|(simp only [zS];first|done|omega)) [bB,l108_9,r108_5,r108_6,hg,r108_7,r108_8,show IntKind.i64.wrap (-1) = -1 from rfl,show IntKind.i64.wrap 0 = 0 from rfl,show IntKind.i64.wrap 1 = 1 from rfl,show IntKind.i64.wrap 2 = 2 from rfl,show IntKind.i64.wrap 3 = 3 from rfl]
  ·exact nx 0 _ _ _ _ _ _ (by omega) (by omega)
  ·exact nx 1 _ _ _ _ _ _ (by omega) (by omega)
  ·exact nx 2 _ _ _ _ _ _ (by omega) (by omega)
  ·exact nx 3 _ _ _ _ _ _ (by omega) (by omega)
  ·exact nx 4 _ _ _ _ _ _ (by omega) (by omega)
 by_cases h1 : n < 0
 ·simp (disch := first|omega|(simp only [zS];first|done|omega)) [bB,a108,r108_0,r108_1,h1,r108_2,aUn]
  simpa using key _ _
 ·simp (disch := first|omega|(simp only [zS];first|done|omega)) [bB,a108,r108_0,r108_1,h1]
  simpa using key _ _
def names7 : List Value := [.string str120,.string str108_111_99_107_45,.string str118_111_116_101_45,.string str119_97_105_116_45,.string str105_116_101_109_45,.string str105_116_101_109_45,.string str105_116_101_109_45]
theorem names7_at {k : Nat} (hk : k ≤ 6) : ∃ s : ByteArray,(names7.drop k).take 1 = [.string s] ∧ slen s ≤ 5 := by
 rcases (show k = 0 ∨ k = 1 ∨ k = 2 ∨ k = 3 ∨ k = 4 ∨ k = 5 ∨ k = 6 by omega) with rfl | rfl | rfl | rfl | rfl | rfl | rfl
 all_goals exact ⟨_,rfl,by decide⟩
theorem named_spec (kind n : Int) (hF : 200 ≤ F) : Ans (cf (F + 2) 110 [vi kind,vi n] h) (StB 10 h) := by
 rw [cf_step (a := a110) rfl rfl (by simp [a110])]
 have e1 := fun (g : H) (n : Int) => five_spec (F := F) (h := g) n hF
 generalize cf (F + 1) = c at *
 have k1 := rowKept h names7 0 []
 have hb : hget (Ev.newRow h names7 0 []) h.size = some (.cells names7 0 true []) := by simp
 have n7 : names7.length = 7 := rfl
 simp (disch := first|omega|(simp only [zS];first|done|omega)) [bB,a110,r110_0,r110_1]
 show Ans (evR _ r110_2 _ (Ev.newRow h names7 0 []) _ _ _) _
 generalize Ev.newRow h names7 0 [] = g at *
 have key : ∀ (k : Nat) (r : Env),k ≤ 6 → Ans (evC (F + 1) (cxOf c (cfX XD) [.tmp 4]) (.seq (.regionD d110_4 [(2,[8])] [4]) .ret) (endK (cfX XD) [.tmp 4]) noK (endK (cfX XD) [.tmp 4]) ((0,vi k) :: (1,vi n) :: (5,.pointer (some ⟨h.size,0,none⟩)) :: r) g []) (StB 10 h) := by
  intro k r hk
  obtain ⟨s,hs,hsl⟩ := names7_at hk
  have hk7 : (k : Int) < 7 := by omega
  have hk7' : k + 1 ≤ 7 := by omega
  simp (disch := first|omega|(simp only [zS];first|done|omega)) [bB,d110_4,hk7,hb,n7,hk7',hs,blanks]
  refine Ans.nextCD (e1 _ _) ?_
  rintro v g2 ⟨k2,t,rfl,ht⟩
  have hb2 := kget hb k2
  have q : ¬ (9223372036854775807 < (slen s : Int) + slen t) := by omega
  simp (disch := first|omega|(simp only [zS];first|done|omega)) [bB,dk_go,chks_nil,chks_cons,chkA_nil,chkA_cons,chk1_no,chk1_yes,chkV_some,hAt_eq,hOf_some,hOf_none,sameV,sameL,sameCell,blanks,q,hb2,n7,hk7',hs,hb,ba_self]
  exact Ans.of ⟨k1.trans k2,_,rfl,by rw [slen_app];omega⟩
 by_cases h1 : kind < 0
 ·simp (disch := first|omega|(simp only [zS];first|done|omega)) [bB,r110_2,h1,r110_3]
  simpa using key 0 [] (by omega)
 by_cases h2 : kind > 6
 ·simp (disch := first|omega|(simp only [zS];first|done|omega)) [bB,r110_2,h1,h2,r110_3]
  simpa using key 0 [] (by omega)
 obtain ⟨k,hk⟩ := Int.eq_ofNat_of_zero_le (show 0 ≤ kind by omega)
 subst hk
 simp (disch := first|omega|(simp only [zS];first|done|omega)) [bB,r110_2,h1,h2]
 simpa using key k [(12,.bool false)] (by omega)
theorem below_spec (s t : ByteArray) (hs : slen s ≤ 140737488355328) (ht : slen t ≤ 140737488355328) : Ans (cf (F + 1) 112 [.string s,.string t] h) fun v h' => h' = h ∧ ∃ u,v = .string u ∧ slen u ≤ slen s + slen t + 1 := by
 rw [cf_step (a := a112) rfl rfl (by simp [a112])]
 have s1 : slen str47 = 1 := rfl
 cases h1 : (s == str47) with
 | true =>
  have q : ¬ (9223372036854775807 < (slen str47 : Int) + slen t) := by rw [s1];omega
  simp (disch := first|omega|(simp only [zS];first|done|omega)) [bB,a112,r112_0,r112_1,h1,r112_2,q]
  exact Ans.of ⟨rfl,_,rfl,by rw [slen_app,s1];omega⟩
 | false =>
  have q : ¬ (9223372036854775807 < (slen s : Int) + slen str47) := by rw [s1];omega
  have q2 : ¬ (9223372036854775807 < (slen s : Int) + slen str47 + slen t) := by rw [s1];omega
  simp (disch := first|omega|(simp only [zS];first|done|omega)) [bB,a112,r112_0,r112_1,h1,r112_3,q,q2]
  exact Ans.of ⟨rfl,_,rfl,by rw [slen_app,slen_app,s1];omega⟩
end Go.Proofs.YtalamcchkkdelaaGreatDoor
end
