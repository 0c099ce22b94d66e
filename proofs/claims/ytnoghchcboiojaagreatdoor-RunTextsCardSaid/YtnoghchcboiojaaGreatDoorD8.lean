/- Texts of the proofs over heraldlaw18, put together by a program (merge18c.py): Rq0. -/
import Derived.Test.YtnoghchcboiojaaGreatDoorD5
import Derived.Test.YtnoghchcboiojaaGreatDoorC0
import Derived.WalkKit
import Derived.BigCall
import Derived.Deep.RegionWith
set_option linter.unusedVariables false
set_option linter.unusedSimpArgs false
section
set_option maxRecDepth 100000
namespace Go.Proofs
open Go.Shelf Go.RowKit Go.Deep
namespace YtnoghchcboiojaaGreatDoor
theorem quote_class (c : UInt8) : ((c.toNat : Int) = 34 ∧ Hid (Go.Rn.quoteB c = [92,34])) ∨
  (¬ (c.toNat : Int) = 34 ∧ (c.toNat : Int) = 92 ∧ Hid (Go.Rn.quoteB c = [92,92])) ∨
  (¬ (c.toNat : Int) = 34 ∧ ¬ (c.toNat : Int) = 92 ∧ (c.toNat : Int) = 10 ∧ Hid (Go.Rn.quoteB c = [92,110])) ∨
  (¬ (c.toNat : Int) = 34 ∧ ¬ (c.toNat : Int) = 92 ∧ ¬ (c.toNat : Int) = 10 ∧ (c.toNat : Int) < 32 ∧ Hid (Go.Rn.quoteB c = [92,120,Go.Rn.hexD (c.toNat / 16),Go.Rn.hexD (c.toNat % 16)])) ∨
  (¬ (c.toNat : Int) = 34 ∧ ¬ (c.toNat : Int) = 92 ∧ ¬ (c.toNat : Int) = 10 ∧ 127 ≤ (c.toNat : Int) ∧ Hid (Go.Rn.quoteB c = [92,120,Go.Rn.hexD (c.toNat / 16),Go.Rn.hexD (c.toNat % 16)])) ∨
  (¬ (c.toNat : Int) = 34 ∧ ¬ (c.toNat : Int) = 92 ∧ ¬ (c.toNat : Int) = 10 ∧ 32 ≤ (c.toNat : Int) ∧ (c.toNat : Int) < 127 ∧ Hid (Go.Rn.quoteB c = [c])) := by
 unfold Hid
 revert c
 refine Go.Rn.u8 ?_
 decide +kernel
theorem dig_slice (k : Nat) (hk : k < 16) (a b : Int) (ha : a = k) (hb : b = IntKind.u8.wrap (k + 1)) (w : World) :
  (Instr.slice 9 (.string { data := #[48,49,50,51,52,53,54,55,56,57,97,98,99,100,101,102] }) (some (.int .u8 a)) (some (.int .u8 b)) none).run Tryz.prog w = .ok (.string ⟨#[Go.Rn.hexD k]⟩) w := by
 subst ha hb
 have h : k = 0 ∨ k = 1 ∨ k = 2 ∨ k = 3 ∨ k = 4 ∨ k = 5 ∨ k = 6 ∨ k = 7 ∨ k = 8 ∨ k = 9 ∨ k = 10 ∨ k = 11 ∨ k = 12 ∨ k = 13 ∨ k = 14 ∨ k = 15 := by omega
 rcases h with rfl | rfl | rfl | rfl | rfl | rfl | rfl | rfl | rfl | rfl | rfl | rfl | rfl | rfl | rfl | rfl <;> (rw [IntKind.wrap_u8];simp [Instr.slice,run_underlying Tryz.underlying9];rfl)
theorem esc_text (a b : UInt8) : ({ data := #[92,120] } ++ { data := #[a] } ++ { data := #[b] } : ByteArray) = { data := #[92,120,a,b] } := by
 apply ByteArray.ext
 simp [ByteArray.data_append]
theorem esc_size (a b : UInt8) : ByteArray.size { data := #[92,120,a,b] } = 4 := rfl
theorem mask_15 (c : UInt8) : bits BinOp.and IntKind.u8 (↑c.toNat) 15 = ((c.toNat % 16 : Nat) : Int) := by
 revert c
 refine Go.Rn.u8 ?_
 decide +kernel
def IsB (B b : Nat) (acc : List UInt8) (w : World) : Prop := Lib.IsBuilderF 71 5 B b (Lib.byteCells acc) w
theorem isB_fresh (w : World) : IsB w.heap.size w.heap.size [] (w.alloc (.cells #[.pointer none,.slice none 0 0] 71)) := Lib.IsBuilderF.of (Lib.fresh_isBuilder 71 5 w)
theorem wb_at (B b : Nat) (acc : List UInt8) (d : UInt8) (z : Int) (hz : z = d.toNat) (w : World) (hI : IsB B b acc w) (hl : acc.length + 1 ≤ 140737488355328) (hB : B ≤ w.heap.size) :
  Calls Tryz.prog 141 #[.pointer (some ⟨b,0,none⟩),.int .u8 z] w fun e w' => e = .returned .nilIface ∧ IsB B b (acc ++ [d]) w' ∧ Below B w w' := by
 subst hz
 refine (Any.Builder_WriteByte_k wbL bldX B b (Lib.byteCells acc) d.toNat w hI (by rw [Lib.byteCells_length];exact hl) hB).mono ?_
 rintro e w' ⟨he,h1,h2,_⟩
 refine ⟨he,?_,h2⟩
 unfold IsB
 rw [Lib.byteCells_append]
 exact .inr h1
theorem ws_at (B b : Nat) (acc : List UInt8) (t : ByteArray) (w : World) (hI : IsB B b acc w) (hl : acc.length + t.size ≤ 140737488355328) (hB : B ≤ w.heap.size) :
  Calls Tryz.prog 29 #[.pointer (some ⟨b,0,none⟩),.string t] w fun e w' => e = .returned (.tuple #[.int .i64 t.size,.nilIface]) ∧ IsB B b (acc ++ t.data.toList) w' ∧ Below B w w' ∧ Lib.OthersKept 5 (some b) w w' := by
 refine (Any.Builder_WriteString_k wsL bldX B b (Lib.byteCells acc) t w hI (by rw [Lib.byteCells_length];exact hl) hB).mono ?_
 rintro e w' ⟨he,h1,h2,h3⟩
 refine ⟨he,?_,h2,h3⟩
 unfold IsB
 rw [Lib.byteCells_append]
 exact .inr h1
theorem str_at (B b : Nat) (acc : List UInt8) (w : World) (hI : IsB B b acc w) (hB : B ≤ w.heap.size) :
  Calls Tryz.prog 34 #[.pointer (some ⟨b,0,none⟩)] w fun e w' => e = .returned (.string ⟨acc.toArray⟩) ∧ Below B w w' ∧ Lib.OthersKept 5 (some b) w w' := by
 refine (Any.Builder_String_any_k strL bldX B b acc w hI hB).mono ?_
 rintro e w' ⟨he,_,h2,h3⟩
 exact ⟨he,h2,h3⟩
theorem sz_esc : ByteArray.size { data := #[92,110] } = 2 := rfl
set_option maxHeartbeats 400000 in
set_option maxRecDepth 1000000 in
theorem quote_walk (s : ByteArray) (w : World) (hs : s.size ≤ 35184372000000) :
  Calls Tryz.prog 95 #[.string s] w fun e w' => e = .returned (.string ⟨(Go.Rn.quote s.data.toList).toArray⟩) ∧ Below w.heap.size w w' := by
 go_enter Tryz.func95,Tryz.ntmps95
 go_wp2_with (go_at_call 141;refine (wb_at w.heap.size w.heap.size _ 34 _ rfl _ (isB_fresh w) (by simp) (by simp)).mono ?_)
 rintro e W1 ⟨rfl,h1,b1⟩
 have b1' : Below w.heap.size w W1 := ((Below.refl _ w).alloc (Nat.le_refl _) _).trans b1
 clear b1
 go_wp2
 go_loopw [4] (fun vi wr => ∃ (i : Nat) (acc : List UInt8),vi = .int .i64 i ∧ i ≤ s.size ∧ IsB w.heap.size w.heap.size acc wr ∧ Below w.heap.size w wr ∧ acc ++ (s.data.toList.drop i).flatMap Go.Rn.quoteB ++ [34] = Go.Rn.quote s.data.toList ∧ acc.length ≤ 1 + 4 * i) (fun vi _ => s.size - (intOf vi).toNat)
 case atStart =>
  exact ⟨0,[34],rfl,by omega,h1,b1',by simp [Go.Rn.quote],by simp⟩
 case round =>
  obtain ⟨i,acc,hvi,hi,hI,hbw,hacc,hal⟩ := hrel
  subst hvi
  by_cases hlt : i < s.size
  ·have hdrop : Hid (s.data.toList.drop i = s[i]'hlt :: s.data.toList.drop (i + 1)) := by
    show s.data.toList.drop i = _
    rw [List.drop_eq_getElem_cons (by rw [Array.length_toList];exact hlt)]
    congr 1
   have hnil : ∀ (acc2 : List UInt8),acc2 = acc ++ Go.Rn.quoteB (s[i]'hlt) → Hid (acc2 ++ (s.data.toList.drop (i + 1)).flatMap Go.Rn.quoteB ++ [34] = Go.Rn.quote s.data.toList) := by
    rintro _ rfl
    show _ = _
    rw [← hacc,hdrop.out]
    simp [List.append_assoc]
   have HA : Hid (acc.length ≤ 1 + 4 * i) := hal
   have HI : Hid (IsB w.heap.size w.heap.size acc wr) := hI
   have HC := quote_class (s[i]'hlt)
   clear hacc hal hI
   rcases HC with ⟨hc,HQ⟩ | ⟨hc1,hc,HQ⟩ | ⟨hc1,hc2,hc,HQ⟩ | ⟨hc1,hc2,hc3,hc,HQ⟩ | ⟨hc1,hc2,hc3,hc,HQ⟩ | ⟨hc1,hc2,hc3,hc4,hc,HQ⟩
   ·go_wp2_with (fail)
    all_goals first | (exfalso;simp only [beq_iff_eq,beq_eq_false_iff_ne] at *;omega) | skip
    go_at_call 141
    have q := wb_at w.heap.size w.heap.size acc 92 92 (by decide) wr HI.out (by have := HA.out;omega) hbw.size
    refine Calls.mono q ?_
    rintro e W2 ⟨rfl,h2,b2⟩
    go_wp2_with (fail)
    go_at_call 141
    have q := wb_at w.heap.size w.heap.size _ 34 34 (by decide) W2 h2 (by have := HA.out;simp;omega) (hbw.trans b2).size
    refine Calls.mono q ?_
    rintro e W3 ⟨rfl,h3,b3⟩
    go_wp2
    go_roundw
    case rel => exact ⟨i + 1,_,by go_num,by omega,h3,(hbw.trans b2).trans b3,(hnil _ (by first | (rw [HQ.out];done) | (rw [HQ.out];simp))).out,by have := HA.out;simp [sz_esc] <;> omega⟩
    case measure => simp [intOf];omega
   ·go_wp2_with (fail)
    all_goals first | (exfalso;simp only [beq_iff_eq,beq_eq_false_iff_ne] at *;omega) | skip
    go_at_call 141
    have q := wb_at w.heap.size w.heap.size acc 92 92 (by decide) wr HI.out (by have := HA.out;omega) hbw.size
    refine Calls.mono q ?_
    rintro e W2 ⟨rfl,h2,b2⟩
    go_wp2_with (fail)
    go_at_call 141
    have q := wb_at w.heap.size w.heap.size _ 92 92 (by decide) W2 h2 (by have := HA.out;simp;omega) (hbw.trans b2).size
    refine Calls.mono q ?_
    rintro e W3 ⟨rfl,h3,b3⟩
    go_wp2
    go_roundw
    case rel => exact ⟨i + 1,_,by go_num,by omega,h3,(hbw.trans b2).trans b3,(hnil _ (by first | (rw [HQ.out];done) | (rw [HQ.out];simp))).out,by have := HA.out;simp [sz_esc] <;> omega⟩
    case measure => simp [intOf];omega
   ·go_wp2_with (fail)
    all_goals first | (exfalso;simp only [beq_iff_eq,beq_eq_false_iff_ne] at *;omega) | skip
    go_at_call 29
    have q := ws_at w.heap.size w.heap.size acc { data := #[92,110] } wr HI.out (by have := HA.out;have h2 : ByteArray.size { data := #[92,110] } = 2 := rfl;omega) hbw.size
    refine Calls.mono q ?_
    rintro e W2 ⟨rfl,h2,b2,_⟩
    go_wp2
    go_roundw
    case rel => exact ⟨i + 1,_,by go_num,by omega,h2,hbw.trans b2,(hnil _ (by first | (rw [HQ.out];done) | (rw [HQ.out];simp))).out,by have := HA.out;simp [sz_esc] <;> omega⟩
    case measure => simp [intOf];omega
   ·go_wp2_with (fail)
    all_goals first | (exfalso;simp only [beq_iff_eq,beq_eq_false_iff_ne] at *;omega) | skip
    have hk2 : (s[i]'hlt).toNat % 16 < 16 := by omega
    have hk1 : (s[i]'hlt).toNat / 16 < 16 := by have := (s[i]'hlt).toNat_lt;omega
    have hs1 := dig_slice _ hk1 (↑(s[i]'hlt).toNat / 16) (IntKind.u8.wrap (↑(s[i]'hlt).toNat / 16 + 1)) (by omega) rfl
    have hs2 := dig_slice _ hk2 (bits BinOp.and IntKind.u8 (↑(s[i]'hlt).toNat) 15) (IntKind.u8.wrap (bits BinOp.and IntKind.u8 (↑(s[i]'hlt).toNat) 15 + 1)) (mask_15 _) (by rw [mask_15])
    have q := fun (w1 : World) (hI1 : IsB w.heap.size w.heap.size acc w1) (hb1 : w.heap.size ≤ w1.heap.size) => ws_at w.heap.size w.heap.size acc ({ data := #[92,120] } ++ { data := #[Go.Rn.hexD ((s[i]'hlt).toNat / 16)] } ++ { data := #[Go.Rn.hexD ((s[i]'hlt).toNat % 16)] }) w1 hI1 (by have := HA.out;rw [esc_text,esc_size];omega) hb1
    go_region_with (go_at_call 29;refine (q wr.drew HI.out hbw.size).mono ?_;rintro e W2 ⟨rfl,h2,b2,_⟩)
    go_wp2
    go_roundw
    case rel => exact ⟨i + 1,_,by go_num,by omega,h2,hbw.trans (Below.mk b2.os b2.tape b2.output b2.size b2.block),(hnil _ (by rw [HQ.out,esc_text])).out,by have := HA.out;rw [esc_text];simp;omega⟩
    case measure => simp [intOf];omega
   ·go_wp2_with (fail)
    all_goals first | (exfalso;simp only [beq_iff_eq,beq_eq_false_iff_ne] at *;omega) | skip
    have hk2 : (s[i]'hlt).toNat % 16 < 16 := by omega
    have hk1 : (s[i]'hlt).toNat / 16 < 16 := by have := (s[i]'hlt).toNat_lt;omega
    have hs1 := dig_slice _ hk1 (↑(s[i]'hlt).toNat / 16) (IntKind.u8.wrap (↑(s[i]'hlt).toNat / 16 + 1)) (by omega) rfl
    have hs2 := dig_slice _ hk2 (bits BinOp.and IntKind.u8 (↑(s[i]'hlt).toNat) 15) (IntKind.u8.wrap (bits BinOp.and IntKind.u8 (↑(s[i]'hlt).toNat) 15 + 1)) (mask_15 _) (by rw [mask_15])
    have q := fun (w1 : World) (hI1 : IsB w.heap.size w.heap.size acc w1) (hb1 : w.heap.size ≤ w1.heap.size) => ws_at w.heap.size w.heap.size acc ({ data := #[92,120] } ++ { data := #[Go.Rn.hexD ((s[i]'hlt).toNat / 16)] } ++ { data := #[Go.Rn.hexD ((s[i]'hlt).toNat % 16)] }) w1 hI1 (by have := HA.out;rw [esc_text,esc_size];omega) hb1
    go_region_with (go_at_call 29;refine (q wr.drew HI.out hbw.size).mono ?_;rintro e W2 ⟨rfl,h2,b2,_⟩)
    go_wp2
    go_roundw
    case rel => exact ⟨i + 1,_,by go_num,by omega,h2,hbw.trans (Below.mk b2.os b2.tape b2.output b2.size b2.block),(hnil _ (by rw [HQ.out,esc_text])).out,by have := HA.out;rw [esc_text];simp;omega⟩
    case measure => simp [intOf];omega
   ·go_wp2_with (fail)
    all_goals first | (exfalso;simp only [beq_iff_eq,beq_eq_false_iff_ne] at *;omega) | skip
    go_at_call 141
    have q := wb_at w.heap.size w.heap.size acc (s[i]'hlt) _ rfl wr HI.out (by have := HA.out;omega) hbw.size
    refine Calls.mono q ?_
    rintro e W2 ⟨rfl,h2,b2⟩
    go_wp2
    go_roundw
    case rel => exact ⟨i + 1,_,by go_num,by omega,h2,hbw.trans b2,(hnil _ (by first | (rw [HQ.out];done) | (rw [HQ.out];simp))).out,by have := HA.out;simp [sz_esc] <;> omega⟩
    case measure => simp [intOf];omega
  ·have : i = s.size := by omega
   subst this
   go_wp2_with (fail)
   go_at_call 141
   have q := wb_at w.heap.size w.heap.size acc 34 34 (by decide) wr hI (by omega) hbw.size
   refine Calls.mono q ?_
   rintro e W2 ⟨rfl,h2,b2⟩
   go_wp2_with (fail)
   go_at_call 34
   refine Calls.mono (str_at w.heap.size w.heap.size _ W2 h2 (hbw.trans b2).size) ?_
   rintro e W3 ⟨rfl,b3,_⟩
   go_wp2
   go_ret
   refine ⟨?_,(hbw.trans b2).trans b3⟩
   rw [← hacc,List.drop_eq_nil_iff.2 (by rw [Array.length_toList];exact Nat.le_refl _)]
   simp
end YtnoghchcboiojaaGreatDoor
end Go.Proofs
end
