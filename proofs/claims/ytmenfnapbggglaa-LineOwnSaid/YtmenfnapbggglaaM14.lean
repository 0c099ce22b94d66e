/- Several texts in one: Nk2, Nk3, Nk4, Lb0, Lb1, Lb2, Lb4, Lb5, Lb6, Lb3, Lb7, Ev19. -/
import Derived.Shelf.Sort.Plain
import Derived.Shelf.Slices.In.SortNone
import Derived.Test.YtmenfnapbggglaaM13

/- The library's sort at this program: its numbers told, each body compared by the kernel. -/
set_option linter.unusedSimpArgs false
set_option linter.unusedVariables false
namespace Go.Proofs
open Go.Shelf
namespace Ytmenfnapbggglaa

def sortRen : Go.Shelf.Ren := ⟨fun | 189 => 41 | 125 => 50 | 257 => 49 | 128 => 60 | 129 => 61 | 294 => 51 | 295 => 52 | 296 => 53 | 297 => 54 | 298 => 55 | 299 => 56 | 216 => 57 | 300 => 58 | 301 => 59 | 328 => 62 | 329 => 63 | 330 => 64 | 331 => 65 | 332 => 66 | 215 => 67 | 343 => 68 | n => n, fun | 28 => 28 | 3 => 3 | 46 => 100 | 0 => 0 | 51 => 111 | 53 => 113 | 4 => 4 | 183 => 103 | 182 => 102 | 131 => 108 | 5 => 5 | 9 => 9 | 218 => 114 | 222 => 118 | 228 => 121 | 229 => 122 | n => n, fun n => n⟩

theorem sortLays : Lays.n189 Try.prog sortRen where
  mixed := by kernel_rfl
  f125 := Try.func50.trans (congrArg some (by kernel_rfl))
  f128 := Try.func60.trans (congrArg some (by kernel_rfl))
  f129 := Try.func61.trans (congrArg some (by kernel_rfl))
  f189 := Try.func41.trans (congrArg some (by kernel_rfl))
  f215 := Try.func67.trans (congrArg some (by kernel_rfl))
  f216 := Try.func57.trans (congrArg some (by kernel_rfl))
  f257 := Try.func49.trans (congrArg some (by kernel_rfl))
  f294 := Try.func51.trans (congrArg some (by kernel_rfl))
  f295 := Try.func52.trans (congrArg some (by kernel_rfl))
  f296 := Try.func53.trans (congrArg some (by kernel_rfl))
  f297 := Try.func54.trans (congrArg some (by kernel_rfl))
  f298 := Try.func55.trans (congrArg some (by kernel_rfl))
  f299 := Try.func56.trans (congrArg some (by kernel_rfl))
  f300 := Try.func58.trans (congrArg some (by kernel_rfl))
  f301 := Try.func59.trans (congrArg some (by kernel_rfl))
  f328 := Try.func62.trans (congrArg some (by kernel_rfl))
  f329 := Try.func63.trans (congrArg some (by kernel_rfl))
  f330 := Try.func64.trans (congrArg some (by kernel_rfl))
  f331 := Try.func65.trans (congrArg some (by kernel_rfl))
  f332 := Try.func66.trans (congrArg some (by kernel_rfl))
  f343 := Try.func68.trans (congrArg some (by kernel_rfl))
  t0 := Try.underlying0
  a0 := Try.isAgg0
  z0 := Try.sizeOf0
  v0 := Try.zeroValue0
  t3 := Try.underlying3
  a3 := Try.isAgg3
  z3 := Try.sizeOf3
  v3 := Try.zeroValue3
  t4 := Try.underlying4
  a4 := Try.isAgg4
  z4 := Try.sizeOf4
  v4 := Try.zeroValue4
  t5 := Try.underlying5
  a5 := Try.isAgg5
  z5 := Try.sizeOf5
  v5 := Try.zeroValue5
  t9 := Try.underlying9
  a9 := Try.isAgg9
  z9 := Try.sizeOf9
  v9 := Try.zeroValue9
  t28 := Try.underlying28
  a28 := Try.isAgg28
  z28 := Try.sizeOf28
  v28 := Try.zeroValue28
  t46 := Try.underlying100
  a46 := Try.isAgg100
  z46 := Try.sizeOf100
  v46 := Try.zeroValue100
  t51 := Try.underlying111
  a51 := Try.isAgg111
  z51 := Try.sizeOf111
  v51 := Try.zeroValue111
  t53 := Try.underlying113
  a53 := Try.isAgg113
  z53 := Try.sizeOf113
  v53 := Try.zeroValue113
  t131 := Try.underlying108
  a131 := Try.isAgg108
  z131 := Try.sizeOf108
  v131 := Try.zeroValue108
  t182 := Try.underlying102
  a182 := Try.isAgg102
  z182 := Try.sizeOf102
  v182 := Try.zeroValue102
  t183 := Try.underlying103
  a183 := Try.isAgg103
  z183 := Try.sizeOf103
  v183 := Try.zeroValue103
  t218 := Try.underlying114
  a218 := Try.isAgg114
  z218 := Try.sizeOf114
  v218 := Try.zeroValue114
  t222 := Try.underlying118
  a222 := Try.isAgg118
  z222 := Try.sizeOf118
  v222 := Try.zeroValue118
  t228 := Try.underlying121
  a228 := Try.isAgg121
  z228 := Try.sizeOf121
  v228 := Try.zeroValue121
  t229 := Try.underlying122
  a229 := Try.isAgg122
  z229 := Try.sizeOf122
  v229 := Try.zeroValue122

theorem sorts : Sorts :=
  ⟨fun blk off cap zs w h1 h2 h3 => Any.slices_Sort_int sortLays blk off cap zs w h1 h2 h3, fun p cap w => Any.slices_Sort_int_none sortLays p cap w⟩

end Ytmenfnapbggglaa
end Go.Proofs

/- Numbers of a nil line, and of a line that has no map yet. -/
set_option linter.unusedSimpArgs false
set_option linter.unusedVariables false
namespace Go.Proofs.Ytmenfnapbggglaa
open Go.ChangeShapes Go.WideShapes Go.ChangeAt Go.RowKit Go.Kit Go.Deep Go.Maps Go.WideElems Go.Sort

set_option maxRecDepth 1000000 in
theorem numbers_nil (W : World) : Calls Try.prog 26 #[.pointer none] W fun e w' => e = .returned (.slice none 0 0) ∧ w' = W := by
  go_enter Try.func26, Try.ntmps26
  go_wp2
  go_ret
  exact ⟨rfl, rfl⟩

set_option maxRecDepth 1000000 in
theorem numbers_none {W : World} {a : Addr} (hl : W.cell? a = some (.map none)) : Calls Try.prog 26 #[.pointer (some a)] W fun e w' => e = .returned (.slice none 0 0) ∧ W.grownBy w' none := by
  have hrg := run_range_nilMap W 43 3 _ Try.underlying43
  have hnx : ∀ ty, (Instr.next (.pointer (some ⟨W.heap.size, 0, none⟩)) false ty).run Try.prog (W.alloc (.mapIter none 0 #[] 0)) = _ := fun ty => run_next_nilMap W ty 0 0 #[]
  have hS := sorts.none' none 0 (W.alloc (.mapIter none 0 #[] 0))
  go_enter Try.func26, Try.ntmps26
  go_wp2
  go_loopw [3] (fun v wr => v = .slice none 0 0 ∧ wr = W.alloc (.mapIter none 0 #[] 0)) (fun _ _ => 0)
  case atStart => exact ⟨rfl, rfl⟩
  case round =>
    obtain ⟨rfl, rfl⟩ := hrel
    go_wp2_with (go_at_call 41; refine hS.mono ?_; rintro e w' ⟨rfl, rfl⟩)
    go_ret
    exact ⟨rfl, World.grownBy_alloc W _ none⟩

end Go.Proofs.Ytmenfnapbggglaa

/- Numbers behind the evaluator. -/
set_option linter.unusedSimpArgs false
set_option linter.unusedVariables false
namespace Go.Proofs.Ytmenfnapbggglaa
open Go.Ev

theorem intKeys_map : ∀ {es : List (Value × Value)} {ks : List Int}, intKeys es = some ks → es.map (·.1) = ks.map (Value.int .i64)
  | [], ks, h => by simp [intKeys] at h; subst h; rfl
  | (k, v) :: r, ks, h => by
    cases k with
    | int q n =>
      cases q with
      | i64 =>
        simp only [intKeys, Option.map_eq_some_iff] at h
        obtain ⟨ks', h1, rfl⟩ := h
        simp [intKeys_map h1]
      | _ => simp [intKeys] at h
    | _ => simp [intKeys] at h

theorem vrs_ints {ρ : Ev.Ren} : ∀ {ks : List Int} {l' : List Value}, VRs ρ (ks.map (Value.int .i64)) l' → l' = ks.map (Value.int .i64)
  | [], _, .nil => rfl
  | k :: ks, _, .cons h t => by rw [h.int_inv, vrs_ints t]; rfl
theorem ints_vrs {ρ : Ev.Ren} : ∀ (ks : List Int), VRs ρ (ks.map (Value.int .i64)) (ks.map (Value.int .i64))
  | [] => .nil
  | k :: ks => .cons (.int _ _) (ints_vrs ks)

def X : FuncId → Option (List Value → H → Res)
  | 26 => some keysX
  | _ => none
def XD : FuncId → Option (List Value → H → Res) := fun _ => none

theorem XD_ok : CallDOk Try.prog (cfX XD) := fun f args h r h' e => by simp [cfX, XD] at e

theorem keysX_inv {args : List Value} {h h' : H} {r : Value} (e : keysX args h = some (r, h')) :
    (args = [.pointer none] ∧ r = .slice none 0 0 ∧ h' = h) ∨
    ∃ b o, args = [.pointer (some ⟨b, o, none⟩)] ∧ ((rd h b o 1 = some [.map none] ∧ r = .slice none 0 0 ∧ h' = h) ∨
      ∃ m es lv ks, rd h b o 1 = some [.map (some m)] ∧ h[m]? = some (.map es lv) ∧ intKeys es = some ks ∧ ks.Nodup ∧ ks.length ≤ 1000000 ∧ (∀ n ∈ ks, 0 ≤ n ∧ n ≤ 1000000000) ∧
        ((ks = [] ∧ r = .slice none 0 0 ∧ h' = h) ∨ (ks ≠ [] ∧ r = .slice (some ⟨h.size, 0, none⟩) ks.length ks.length ∧ h' = Ev.newRow h ((ks.mergeSort fun x y => decide (x ≤ y)).map (Value.int .i64)) 1 []))) := by
  unfold keysX at e
  split at e
  · cases e; exact .inl ⟨rfl, rfl, rfl⟩
  · rename_i b o
    refine .inr ⟨b, o, rfl, ?_⟩
    split at e
    · rename_i hr
      cases e
      exact .inl ⟨hr, rfl, rfl⟩
    · rename_i m hr
      split at e
      · rename_i es lv hm
        split at e
        · rename_i ks hk
          split at e
          · rename_i hc
            refine .inr ⟨m, es, lv, ks, hr, hm, hk, hc.1, hc.2.1, hc.2.2, ?_⟩
            split at e
            · rename_i hn
              cases e
              exact .inl ⟨hn, rfl, rfl⟩
            · rename_i hn
              cases e
              exact .inr ⟨hn, rfl, rfl⟩
          · cases e
        · cases e
      · cases e
    · cases e
  · cases e

theorem keysX_ok : CallOk Try.prog (fun g args h => if g = 26 then keysX args h else none) := by
  intro f args h r h' e
  simp only at e
  split at e
  · rename_i hf
    subst hf
    refine ⟨by unfold callable; rw [Try.func26]; rfl, ?_⟩
    intro ρ w args' rr hv
    rcases keysX_inv e with ⟨rfl, rfl, rfl⟩ | ⟨b, o, rfl, h2⟩
    · cases hv with
      | cons hp ht =>
        cases ht
        cases hp
        refine (numbers_nil w).mono ?_
        rintro e w' ⟨rfl, rfl⟩
        exact ⟨_, ρ, rfl, .snil, rr, .refl _ _ _⟩
    · cases hv with
      | cons hp ht =>
        cases ht
        cases hp with
        | ptr hb =>
          rename_i i
          rcases h2 with ⟨hr, rfl, rfl⟩ | ⟨m, es, lv, ks, hr, hm, hk, hn, hl, hbd, h3⟩
          · obtain ⟨_, l', q1, q2⟩ := rd_rel rr hb hr
            cases q1 with
            | cons q3 q4 =>
              cases q4
              have := q3.mnil_inv
              subst this
              have hc := q2 0 _ rfl
              refine (numbers_none hc).mono ?_
              rintro e w' ⟨rfl, hg⟩
              obtain ⟨g1, g2⟩ := grown_rel rr hg
              exact ⟨_, ρ, rfl, .snil, g1, g2⟩
          · obtain ⟨_, l', q1, q2⟩ := rd_rel rr hb hr
            cases q1 with
            | cons q3 q4 =>
              cases q4
              obtain ⟨j, hj, rfl⟩ := q3.map_inv
              have hc := q2 0 _ rfl
              obtain ⟨es', clock, g1, g2, _, g4, g5⟩ := rr.blk m j _ hj hm
              rw [intKeys_map hk] at g2
              have hk' := vrs_ints g2
              refine (numbers_walk sorts j.blk hc g1 hk' hn hbd hl g4 g5).mono ?_
              rintro e w' ⟨v, rfl, hown, hnil, hg⟩
              rcases h3 with ⟨rfl, rfl, rfl⟩ | ⟨hne, rfl, rfl⟩
              · rw [hnil rfl]
                obtain ⟨a1, a2⟩ := grown_rel rr hg
                exact ⟨_, ρ, rfl, .snil, a1, a2⟩
              · rcases hown.2 with ⟨_, h0⟩ | ⟨g, cap, cur, rfl, hbase, hcur, e1, e2, e3, e4⟩
                · exact (hne (List.eq_nil_of_length_eq_zero h0)).elim
                · have hl2 : (ks.mergeSort fun x y => decide (x ≤ y)).length = ks.length := List.length_mergeSort ks
                  obtain ⟨a1, a2, a3⟩ := own_rel rr hg (n := ks.length) hcur hbase e1 (by omega) (by rw [List.length_map, hl2]) (by simpa using e4) (ints_vrs _)
                  exact ⟨_, _, rfl, a3, a1, a2⟩
  · cases e

theorem X_ok : XOk Try.prog X := by
  intro f x h
  unfold X at h
  split at h <;> cases h
  exact keysX_ok

end Go.Proofs.Ytmenfnapbggglaa

/- The table of the seat's functions, and what the small ones answer. -/
set_option linter.unusedSimpArgs false
set_option linter.unusedVariables false
namespace Go.Proofs.Ytmenfnapbggglaa
open Go.Ev

def tbl : FuncId → Option AFn
  | 3 => some a3
  | 4 => some a4
  | 5 => some a5
  | 6 => some a6
  | 7 => some a7
  | 8 => some a8
  | 9 => some a9
  | 10 => some a10
  | 11 => some a11
  | 12 => some a12
  | 13 => some a13
  | 14 => some a14
  | 15 => some a15
  | 16 => some a16
  | 17 => some a17
  | 18 => some a18
  | 19 => some a19
  | 20 => some a20
  | 21 => some a21
  | 22 => some a22
  | 23 => some a23
  | 24 => some a24
  | 25 => some a25
  | 27 => some a27
  | 28 => some a28
  | 29 => some a29
  | 30 => some a30
  | 31 => some a31
  | 32 => some a32
  | 33 => some a33
  | 34 => some a34
  | 35 => some a35
  | 36 => some a36
  | 37 => some a37
  | 38 => some a38
  | 39 => some a39
  | 40 => some a40
  | 42 => some a42
  | 43 => some a43
  | 44 => some a44
  | 45 => some a45
  | 46 => some a46
  | 47 => some a47
  | 48 => some a48
  | _ => none

theorem tbl_ok : TblOk Try.prog tbl := by
  intro f af h
  unfold tbl at h
  split at h <;> cases h
  · exact ⟨_, _, Try.func3, a3_ok⟩
  · exact ⟨_, _, Try.func4, a4_ok⟩
  · exact ⟨_, _, Try.func5, a5_ok⟩
  · exact ⟨_, _, Try.func6, a6_ok⟩
  · exact ⟨_, _, Try.func7, a7_ok⟩
  · exact ⟨_, _, Try.func8, a8_ok⟩
  · exact ⟨_, _, Try.func9, a9_ok⟩
  · exact ⟨_, _, Try.func10, a10_ok⟩
  · exact ⟨_, _, Try.func11, a11_ok⟩
  · exact ⟨_, _, Try.func12, a12_ok⟩
  · exact ⟨_, _, Try.func13, a13_ok⟩
  · exact ⟨_, _, Try.func14, a14_ok⟩
  · exact ⟨_, _, Try.func15, a15_ok⟩
  · exact ⟨_, _, Try.func16, a16_ok⟩
  · exact ⟨_, _, Try.func17, a17_ok⟩
  · exact ⟨_, _, Try.func18, a18_ok⟩
  · exact ⟨_, _, Try.func19, a19_ok⟩
  · exact ⟨_, _, Try.func20, a20_ok⟩
  · exact ⟨_, _, Try.func21, a21_ok⟩
  · exact ⟨_, _, Try.func22, a22_ok⟩
  · exact ⟨_, _, Try.func23, a23_ok⟩
  · exact ⟨_, _, Try.func24, a24_ok⟩
  · exact ⟨_, _, Try.func25, a25_ok⟩
  · exact ⟨_, _, Try.func27, a27_ok⟩
  · exact ⟨_, _, Try.func28, a28_ok⟩
  · exact ⟨_, _, Try.func29, a29_ok⟩
  · exact ⟨_, _, Try.func30, a30_ok⟩
  · exact ⟨_, _, Try.func31, a31_ok⟩
  · exact ⟨_, _, Try.func32, a32_ok⟩
  · exact ⟨_, _, Try.func33, a33_ok⟩
  · exact ⟨_, _, Try.func34, a34_ok⟩
  · exact ⟨_, _, Try.func35, a35_ok⟩
  · exact ⟨_, _, Try.func36, a36_ok⟩
  · exact ⟨_, _, Try.func37, a37_ok⟩
  · exact ⟨_, _, Try.func38, a38_ok⟩
  · exact ⟨_, _, Try.func39, a39_ok⟩
  · exact ⟨_, _, Try.func40, a40_ok⟩
  · exact ⟨_, _, Try.func42, a42_ok⟩
  · exact ⟨_, _, Try.func43, a43_ok⟩
  · exact ⟨_, _, Try.func44, a44_ok⟩
  · exact ⟨_, _, Try.func45, a45_ok⟩
  · exact ⟨_, _, Try.func46, a46_ok⟩
  · exact ⟨_, _, Try.func47, a47_ok⟩
  · exact ⟨_, _, Try.func48, a48_ok⟩

abbrev cf (F : Nat) : CF := evFn X XD tbl F

theorem cf_ok (F : Nat) : CallOk Try.prog (cf F) := evFn_sound (Checked.mixed Try.checked) tbl_ok X_ok XD_ok F

theorem cf_step {F : Nat} {f : FuncId} {args : List Value} {h : H} {a : AFn} (hX : X f = none) (ht : tbl f = some a) (hl : args.length ≤ a.ntmps) :
    cf (F + 1) f args h = evC F (cf F) a.body (endK (cfX XD) a.results) noK (endK (cfX XD) a.results) (envOf 0 args) h [] := by
  simp only [cf, evFn, hX, ht, if_pos hl]
  rfl

theorem cf_X {F : Nat} {f : FuncId} {args : List Value} {h : H} {x : List Value → H → Res} (hX : X f = some x) : cf (F + 1) f args h = x args h := by
  simp only [cf, evFn, hX]

theorem num_eq (F : Nat) (n : Int) (h : H) : cf (F + 1) 20 [.int .i64 n] h = some (.int .i64 n, h) := by
  rw [cf_step (a := a20) rfl rfl (by simp [a20])]
  simp [a20, r20_0, r20_1]

theorem new_eq (F : Nat) (h : H) : cf (F + 1) 15 [] h = some (.pointer (some ⟨h.size, 0, none⟩), Ev.newRow h [.map none, .int .i64 0] 0 []) := by
  rw [cf_step (a := a15) rfl rfl (by simp [a15])]
  simp [a15, r15_0, r15_1, partsOf, fillL]

end Go.Proofs.Ytmenfnapbggglaa

/- The program's line, as the evaluator's memory holds it; Look, put, Take, Double, Spoil. -/
set_option linter.unusedSimpArgs false
set_option linter.unusedVariables false
namespace Go.Proofs.Ytmenfnapbggglaa
open Go.Ev

structure Msg where
  fr : Int
  to : Int
  b : ByteArray

def Msg.cells (m : Msg) : List Value := [.int .i64 m.fr, .int .i64 m.to, .string m.b]
def Msg.val (m : Msg) : Value := .agg ⟨m.cells⟩
def Msg.zero : Msg := ⟨0, 0, ⟨#[]⟩⟩
abbrev Parcel := Msg × Bool
def pcells (p : Parcel) : List Value := p.1.cells ++ [.bool p.2]
def pval (p : Parcel) : Value := .agg ⟨pcells p⟩
abbrev Flight := List (Int × Parcel)
def ents (fl : Flight) : List (Value × Value) := fl.map fun p => (.int .i64 p.1, pval p.2)

def lk (n : Int) : Flight → Nat → Option (Nat × Parcel)
  | [], _ => none
  | p :: r, i => if n = p.1 then some (i, p.2) else lk n r (i + 1)

theorem findM_ents (n : Int) : ∀ (fl : Flight) (i : Nat), findM (.int .i64 n) (ents fl) i = some ((lk n fl i).map fun q => (q.1, pval q.2))
  | [], i => rfl
  | p :: r, i => by
    have ih := findM_ents n r (i + 1)
    unfold ents at ih
    unfold ents lk
    simp only [List.map_cons, findM, keyEq, if_true]
    by_cases h : n = p.1
    · simp [h]
    · have : (n == p.1) = false := by simpa using h
      simp [this, h, ih]

structure LineAt (h : H) (b : Nat) (m : Option Nat) (fl : Flight) (last : Int) : Prop where
  line : hget h b = some (.cells [.map m, .int .i64 last] 0 true [])
  no : m = none → fl = []
  yes : ∀ x, m = some x → x ≠ b ∧ hget h x = some (.map (ents fl) true)

theorem LineAt.entries {h : H} {b : Nat} {m : Option Nat} {fl : Flight} {last : Int} (l : LineAt h b m fl last) : entriesOf h (.map m) = some (ents fl) := by
  cases m with
  | none => rw [l.no rfl]; rfl
  | some x => simp [entriesOf, (l.yes x rfl).2]

theorem look_spec (F : Nat) {h : H} {b : Nat} {m : Option Nat} {fl : Flight} {last : Int} (l : LineAt h b m fl last) (n : Int) :
    Ans (cf (F + 1) 19 [.pointer (some ⟨b, 0, none⟩), .int .i64 n] h) fun v h' =>
      v = .tuple ⟨match lk n fl 0 with | some (_, p) => [p.1.val, .int .i64 0] | none => [Msg.zero.val, .int .i64 160]⟩ ∧ Keeps h h' fun _ => False := by
  have hb := l.line
  have hbs := lt_of_get hb
  have he := l.entries
  rw [cf_step (a := a19) rfl rfl (by simp [a19])]
  simp [a19, r19_0, r19_1, nilEq, r19_3, rd, hbs, hb]
  cases m with
  | none =>
    have := l.no rfl
    subst this
    simp [entriesOf, findM, wr, hbs, lk, r19_4, aUn, r19_5, partsOf, fillL, rd]
    refine .of ⟨rfl, ?_⟩
    repeat first | exact Keeps.refl _ _ | apply Keeps.row | refine Keeps.set_new ?_ (by omega) _
  | some x =>
    obtain ⟨hx1, hx2⟩ := l.yes x rfl
    have hxs := lt_of_get hx2
    simp [entriesOf, hxs, hx2, findM_ents]
    cases lk n fl 0 with
    | none =>
      simp [wr, r19_4, aUn, r19_5, partsOf, fillL, rd]
      refine .of ⟨rfl, ?_⟩
      repeat first | exact Keeps.refl _ _ | apply Keeps.row | refine Keeps.set_new ?_ (by omega) _
    | some q =>
      obtain ⟨i, p⟩ := q
      simp [wr, r19_4, aUn, r19_6, rd, pval, pcells, Msg.cells]
      refine .of ⟨rfl, ?_⟩
      repeat first | exact Keeps.refl _ _ | apply Keeps.row | refine Keeps.set_new ?_ (by omega) _

theorem LineAt.length_le {h : H} {b : Nat} {m : Option Nat} {fl : Flight} {last : Int} (l : LineAt h b m fl last) : (ents fl).length = fl.length := by simp [ents]

/-- Numbers rise, up to the last one. -/
structure Fl (fl : Flight) (last : Int) : Prop where
  rise : fl.Pairwise fun p q => p.1 < q.1
  bnd : ∀ p ∈ fl, 1 ≤ p.1 ∧ p.1 ≤ last
  pos : 0 ≤ last

theorem lk_none {n : Int} : ∀ {fl : Flight} (i : Nat), (∀ p ∈ fl, p.1 ≠ n) → lk n fl i = none
  | [], _, _ => rfl
  | p :: r, i, h => by
    unfold lk
    rw [if_neg (fun e => h p (by simp) e.symm)]
    exact lk_none (i + 1) fun q hq => h q (by simp [hq])

theorem Fl.fresh {fl : Flight} {last : Int} (w : Fl fl last) : lk (last + 1) fl 0 = none :=
  lk_none 0 fun p hp => by have := (w.bnd p hp).2; omega

theorem Fl.put {fl : Flight} {last : Int} (w : Fl fl last) (p : Parcel) : Fl (fl ++ [(last + 1, p)]) (last + 1) := by
  refine ⟨List.pairwise_append.2 ⟨w.rise, by simp, fun a ha q hq => ?_⟩, fun q hq => ?_, by have := w.pos; omega⟩
  · simp at hq; subst hq
    have := (w.bnd a ha).2
    show a.1 < last + 1
    omega
  · rcases List.mem_append.1 hq with h | h
    · have := w.bnd q h; omega
    · simp at h; subst h
      have := w.pos
      exact ⟨by show 1 ≤ last + 1; omega, Int.le_refl _⟩

theorem put_spec (F : Nat) {h : H} {b : Nat} {m : Option Nat} {fl : Flight} {last : Int} (l : LineAt h b m fl last) (w : Fl fl last) (hmax : last ≤ 1000000000) (p : Parcel) :
    Ans (cf (F + 1) 34 [.pointer (some ⟨b, 0, none⟩), pval p] h) fun v h' =>
      if 256 ≤ fl.length then v = .int .i64 (-1) ∧ Keeps h h' fun _ => False
      else v = .int .i64 (last + 1) ∧ (Keeps h h' fun x => x = b ∨ m = some x) ∧ ∃ m', LineAt h' b (some m') (fl ++ [(last + 1, p)]) (last + 1) ∧ (m = some m' ∨ (m = none ∧ h.size ≤ m')) := by
  have hb := l.line
  have hbs := lt_of_get hb
  have hpos := w.pos
  have hwrap : IntKind.i64.wrap (last + 1) = last + 1 := wrap_in (by omega) (by omega)
  rw [cf_step (a := a34) rfl rfl (by simp [a34])]
  simp [a34, r34_0, r34_1, nilEq, pval, pcells, Msg.cells, rd, hbs, hb, aBin, intBin]
  cases m with
  | none =>
    have := l.no rfl
    subst this
    simp [entriesOf, r34_3, r34_4, r34_5, rd, wr, hbs, hb, nilEq, aBin, intBin, hwrap, d34_6, r34_7, ne_at hbs, ne_at' hbs, ne_far hbs, ne_far' hbs, findM]
    refine .of ⟨rfl, ?_, h.size + 1, ⟨?_, nofun, ?_⟩, by omega⟩
    · repeat first | exact Keeps.refl _ _ | apply Keeps.row | refine Keeps.set_new ?_ (by omega) _ | refine Keeps.set_may ?_ (by simp) _ | apply Keeps.push
    · simp [ne_at hbs, ne_at' hbs, ne_far hbs, ne_far' hbs, hbs]
    · intro x hx
      cases hx
      simp [ne_at hbs, ne_at' hbs, ne_far hbs, ne_far' hbs, hbs, ents, pval, pcells, Msg.cells]
  | some x =>
    obtain ⟨hx1, hx2⟩ := l.yes x rfl
    have hxs := lt_of_get hx2
    simp [entriesOf, hxs, hx2, ents]
    by_cases hfull : 256 ≤ fl.length
    · have hf' : (256 : Int) ≤ (fl.length : Int) := by omega
      simp [hfull, hf', r34_2]
      refine Ans.of ?_
      refine ⟨rfl, ?_⟩
      repeat first | exact Keeps.refl _ _ | apply Keeps.row | refine Keeps.set_new ?_ (by omega) _
    · have hf' : ¬ (256 : Int) ≤ (fl.length : Int) := by omega
      have hf := findM_ents (last + 1) fl 0
      rw [w.fresh] at hf
      simp [hfull, hf', r34_3, r34_5, d34_6, r34_7, rd, wr, hbs, hb, nilEq, aBin, intBin, hwrap, ne_at hbs, ne_at' hbs, ne_far hbs, ne_far' hbs, ne_at hxs, ne_at' hxs, ne_far hxs, ne_far' hxs, hx1, hx1.symm, hx2, hxs, hf]
      refine Ans.of ?_
      refine ⟨rfl, ?_, ⟨?_, nofun, ?_⟩⟩
      · repeat first | exact Keeps.refl _ _ | apply Keeps.row | refine Keeps.set_new ?_ (by omega) _ | refine Keeps.set_may ?_ (by simp) _ | apply Keeps.push
      · simp [ne_at hbs, ne_at' hbs, ne_far hbs, ne_far' hbs, hbs, hxs, hx1, hx1.symm]
      · intro y hy
        cases hy
        simp [ne_at hbs, ne_at' hbs, ne_far hbs, ne_far' hbs, hbs, ents, pval, pcells, Msg.cells, hxs, hx1, hx1.symm]

end Go.Proofs.Ytmenfnapbggglaa

/- Take, Double, Spoil of the program's line. -/
set_option linter.unusedSimpArgs false
set_option linter.unusedVariables false
namespace Go.Proofs.Ytmenfnapbggglaa
open Go.Ev

theorem LineAt.keeps {h h' : H} {S : Nat → Prop} {b : Nat} {m : Option Nat} {fl : Flight} {last : Int} (l : LineAt h b m fl last) (k : Keeps h h' S) (h1 : ¬ S b) (h2 : ∀ x, m = some x → ¬ S x) : LineAt h' b m fl last :=
  ⟨k.get l.line h1, l.no, fun x hx => ⟨(l.yes x hx).1, k.get (l.yes x hx).2 (h2 x hx)⟩⟩

theorem LineAt.keeps0 {h h' : H} {b : Nat} {m : Option Nat} {fl : Flight} {last : Int} (l : LineAt h b m fl last) (k : Keeps h h' fun _ => False) : LineAt h' b m fl last := l.keeps k (by simp) (by simp)

theorem LineAt.some_of {h : H} {b : Nat} {m : Option Nat} {fl : Flight} {last : Int} (l : LineAt h b m fl last) {n : Int} {i j : Nat} {p : Parcel} (e : lk n fl j = some (i, p)) : ∃ x, m = some x := by
  cases m with
  | some x => exact ⟨x, rfl⟩
  | none => rw [l.no rfl] at e; cases e

theorem double_spec (F : Nat) {h : H} {b : Nat} {m : Option Nat} {fl : Flight} {last : Int} (l : LineAt h b m fl last) (w : Fl fl last) (hmax : last ≤ 1000000000) (n : Int) :
    Ans (cf (F + 2) 17 [.pointer (some ⟨b, 0, none⟩), .int .i64 n] h) fun v h' =>
      match lk n fl 0 with
      | none => v = .tuple ⟨[.int .i64 0, .int .i64 160]⟩ ∧ Keeps h h' fun _ => False
      | some (_, p) => if 256 ≤ fl.length then v = .tuple ⟨[.int .i64 0, .int .i64 46]⟩ ∧ Keeps h h' fun _ => False
        else v = .tuple ⟨[.int .i64 (last + 1), .int .i64 0]⟩ ∧ (Keeps h h' fun x => x = b ∨ m = some x) ∧ ∃ m', LineAt h' b (some m') (fl ++ [(last + 1, p)]) (last + 1) ∧ (m = some m' ∨ (m = none ∧ h.size ≤ m')) := by
  rw [cf_step (a := a17) rfl rfl (by simp [a17])]
  simp [a17, r17_0, r17_1]
  refine Ans.next (look_spec F l n) ?_
  rintro v h1 ⟨rfl, k1⟩
  cases hlk : lk n fl 0 with
  | none =>
    simp [Msg.zero, Msg.val, Msg.cells, r17_2, r17_3]
    refine Ans.of ?_
    refine ⟨rfl, k1.trans ?_⟩
    repeat first | exact Keeps.refl _ _ | apply Keeps.row | refine Keeps.set_new ?_ (by omega) _
  | some q =>
    obtain ⟨i, p⟩ := q
    obtain ⟨x, rfl⟩ := l.some_of hlk
    have l1 := l.keeps0 k1
    have hb := l1.line
    have hbs := lt_of_get hb
    obtain ⟨hx1, hx2⟩ := l1.yes x rfl
    have hxs := lt_of_get hx2
    have hf := findM_ents n fl 0
    rw [hlk] at hf
    simp [Msg.val, Msg.cells, r17_2, r17_4, hbs, hb, hxs, hx2, hf, ne_at hbs, ne_at' hbs, ne_at hxs, ne_at' hxs]
    refine Ans.next (put_spec F (l1.keeps0 ?_) w hmax p) ?_
    · repeat first | exact Keeps.refl _ _ | apply Keeps.row | refine Keeps.set_new ?_ (by omega) _
    intro v h2 hq
    by_cases hfull : 256 ≤ fl.length
    · rw [if_pos hfull] at hq
      obtain ⟨rfl, k2⟩ := hq
      simp [hfull, r17_5, r17_6]
      refine Ans.of ?_
      refine ⟨rfl, k1.trans (Keeps.trans ?_ k2)⟩
      repeat first | exact Keeps.refl _ _ | apply Keeps.row | refine Keeps.set_new ?_ (by omega) _
    · rw [if_neg hfull] at hq
      obtain ⟨rfl, k2, m', l2, hm'⟩ := hq
      have hpos := w.pos
      have hneg : ¬ (last + 1 < 0) := by omega
      simp [hfull, hneg, r17_5, r17_7]
      refine Ans.of ?_
      rcases hm' with hm' | ⟨hm', _⟩
      · cases hm'
        refine ⟨rfl, (k1.weak (by simp)).trans (Keeps.trans ?_ (k2.weak (by simp))), l2⟩
        repeat first | exact Keeps.refl _ _ | apply Keeps.row | refine Keeps.set_new ?_ (by omega) _
      · cases hm'

theorem map_eraseIdx {α β : Type} (f : α → β) : ∀ (l : List α) (i : Nat), (l.map f).eraseIdx i = (l.eraseIdx i).map f
  | [], _ => rfl
  | _ :: _, 0 => rfl
  | a :: l, i + 1 => by simp [map_eraseIdx f l i]

theorem take_spec (F : Nat) {h : H} {b : Nat} {m : Option Nat} {fl : Flight} {last : Int} (l : LineAt h b m fl last) (n : Int) :
    Ans (cf (F + 2) 35 [.pointer (some ⟨b, 0, none⟩), .int .i64 n] h) fun v h' =>
      match lk n fl 0 with
      | none => v = .tuple ⟨[Msg.zero.val, .int .i64 160]⟩ ∧ Keeps h h' fun _ => False
      | some (i, p) => v = .tuple ⟨[p.1.val, .int .i64 0]⟩ ∧ (Keeps h h' fun x => m = some x) ∧ LineAt h' b m (fl.eraseIdx i) last := by
  have hbs := lt_of_get l.line
  rw [cf_step (a := a35) rfl rfl (by simp [a35])]
  simp [a35, r35_0, r35_1]
  have l0 : LineAt (Ev.newRow h [.int .i64 0, .int .i64 0, .string { data := #[] }] 0 []) b m fl last := l.keeps0 ((Keeps.refl _ _).row _ _ _)
  refine Ans.next (look_spec F l0 n) ?_
  rintro v h1 ⟨rfl, k1⟩
  have h0 : hget h1 h.size = _ := k1.get (newRow_new rfl) (by simp)
  have h0s := lt_of_get h0
  have l1 := l0.keeps0 k1
  have hb := l1.line
  have hbs1 := lt_of_get hb
  have k1' := k1.1
  simp at k1'
  have kh1 : Keeps h h1 fun _ => False := Keeps.trans ((Keeps.refl _ _).row _ _ _) k1
  cases hlk : lk n fl 0 with
  | none =>
    simp [Msg.zero, Msg.val, Msg.cells, r35_2, r35_4, ne_at h0s, ne_at' h0s, h0, h0s]
    refine Ans.of ?_
    refine ⟨rfl, ?_⟩
    repeat first | exact kh1 | apply Keeps.row | refine Keeps.set_new ?_ (by omega) _
  | some q =>
    obtain ⟨i, p⟩ := q
    obtain ⟨x, rfl⟩ := l.some_of hlk
    have hx0 := lt_of_get (l.yes x rfl).2
    obtain ⟨hx1, hx2⟩ := l1.yes x rfl
    have hxs := lt_of_get hx2
    have hf := findM_ents n fl 0
    rw [hlk] at hf
    simp [Msg.val, Msg.cells, r35_2, r35_3, r35_4, ne_at h0s, ne_at' h0s, h0, h0s, hb, hbs, hbs1, hxs, hx2, hf, ne_at hbs1, ne_at' hbs1, ne_at hxs, ne_at' hxs, ne_at hx0, ne_at' hx0]
    refine Ans.of ?_
    refine ⟨rfl, ?_, ⟨?_, nofun, ?_⟩⟩
    · repeat first | exact kh1.weak (by simp) | apply Keeps.row | refine Keeps.set_new ?_ (by omega) _ | refine Keeps.set_may ?_ (by simp) _
    · simp [hbs, hbs1, hb, hx1, hx1.symm, ne_at hbs, ne_at' hbs, ne_at hbs1, ne_at' hbs1]
    · intro y hy
      cases hy
      refine ⟨hx1, ?_⟩
      simp [hxs, hx0, ne_at hx0, ne_at' hx0, ne_at hxs, ne_at' hxs, ents, map_eraseIdx, lt_far hxs]

end Go.Proofs.Ytmenfnapbggglaa

/- Lists of messages in memory; short. -/
set_option linter.unusedSimpArgs false
set_option linter.unusedVariables false
namespace Go.Proofs.Ytmenfnapbggglaa
open Go.Ev

def mcells (l : List Msg) : List Value := l.flatMap Msg.cells

theorem mcells_length : ∀ l : List Msg, (mcells l).length = 3 * l.length
  | [] => rfl
  | m :: l => by
    have := mcells_length l
    unfold mcells at this ⊢
    rw [List.flatMap_cons, List.length_append, this, List.length_cons]
    simp only [Msg.cells, List.length_cons, List.length_nil]
    omega

/-- What a list of messages reads: element by element. -/
def MsgsAt (h : H) (v : Value) (l : List Msg) : Prop :=
  (l = [] ∧ v = .slice none 0 0) ∨
  (∃ b o c cs es lv an, v = .slice (some ⟨b, o, none⟩) l.length c ∧ hget h b = some (.cells cs es lv an) ∧ o + 3 * l.length ≤ cs.length ∧ (cs.drop o).take (3 * l.length) = mcells l)

theorem MsgsAt.keeps {h h' : H} {v : Value} {l : List Msg} (m : MsgsAt h v l) (k : Keeps h h' fun _ => False) : MsgsAt h' v l := by
  rcases m with m | ⟨b, o, c, cs, es, lv, an, h1, h2, h3, h4⟩
  · exact .inl m
  · exact .inr ⟨b, o, c, cs, es, lv, an, h1, k.get h2 (by simp), h3, h4⟩

theorem slice3 {cs : List Value} {o : Nat} {l : List Msg} (h3 : o + 3 * l.length ≤ cs.length) (h4 : (cs.drop o).take (3 * l.length) = mcells l) {i : Nat} (hi : i < l.length) : o + i * 3 + 3 ≤ cs.length ∧ (cs.drop (o + i * 3)).take 3 = (l[i]).cells := by
  refine ⟨by omega, ?_⟩
  have h5 : ((mcells l).drop (i * 3)).take 3 = (l[i]).cells := by
    clear h3 h4
    induction l generalizing i with
    | nil => simp at hi
    | cons m l ih =>
      cases i with
      | zero => rfl
      | succ i =>
        have hi' : i < l.length := by simpa using hi
        have := ih hi'
        rw [show (i + 1) * 3 = i * 3 + 3 by omega]
        simpa [mcells, Msg.cells, List.drop_append] using this
  rw [← h5, ← h4, List.drop_take, List.take_take, List.drop_drop, Nat.min_eq_left (by omega)]

theorem MsgsAt.read {h : H} {v : Value} {l : List Msg} (m : MsgsAt h v l) {i : Nat} (hi : i < l.length) :
    ∃ b o c cs es lv an, v = .slice (some ⟨b, o, none⟩) l.length c ∧ hget h b = some (.cells cs es lv an) ∧ o + i * 3 + 3 ≤ cs.length ∧ (cs.drop (o + i * 3)).take 3 = [.int .i64 (l[i]).fr, .int .i64 (l[i]).to, .string (l[i]).b] := by
  rcases m with ⟨rfl, _⟩ | ⟨b, o, c, cs, es, lv, an, h1, h2, h3, h4⟩
  · simp at hi
  · obtain ⟨h5, h6⟩ := slice3 h3 h4 hi
    exact ⟨b, o, c, cs, es, lv, an, h1, h2, h5, h6⟩

/-- A row of one's own (n elements of es cells), all of it behind B: it may grow. -/
def OwnRow (h : H) (v : Value) (es n : Nat) (cs : List Value) (B : Nat) : Prop :=
  (n = 0 ∧ cs = [] ∧ v = .slice none 0 0) ∨ (∃ b, B ≤ b ∧ v = .slice (some ⟨b, 0, none⟩) n n ∧ (∃ an, hget h b = some (.cells cs es true an) ∧ ∀ a ∈ an, B ≤ a) ∧ cs.length = n * es)

theorem OwnRow.keeps {h h' : H} {v : Value} {es n : Nat} {cs : List Value} {B : Nat} (o : OwnRow h v es n cs B) {S : Nat → Prop} (k : Keeps h h' S) (hs : ∀ b, B ≤ b → ¬ S b) : OwnRow h' v es n cs B := by
  rcases o with o | ⟨b, h1, h2, ⟨an, h3, h4⟩, h5⟩
  · exact .inl o
  · exact .inr ⟨b, h1, h2, ⟨an, k.get h3 (hs b h1), h4⟩, h5⟩

theorem OwnRow.keeps' {h h' : H} {v : Value} {es n : Nat} {cs : List Value} {B : Nat} (o : OwnRow h v es n cs B) {S : Nat → Prop} (k : Keeps h h' S) (hs : ∀ b an, B ≤ b → hget h b = some (.cells cs es true an) → ¬ S b) : OwnRow h' v es n cs B := by
  rcases o with o | ⟨b, h1, h2, ⟨an, h3, h4⟩, h5⟩
  · exact .inl o
  · exact .inr ⟨b, h1, h2, ⟨an, k.get h3 (hs b an h1 h3), h4⟩, h5⟩

theorem OwnRow.at {h : H} {v : Value} {es n : Nat} {cs : List Value} {B : Nat} (o : OwnRow h v es n cs B) {x n' : Nat} (e : v = .slice (some ⟨x, 0, none⟩) n' n') : ∃ an, hget h x = some (.cells cs es true an) := by
  rcases o with ⟨_, _, h3⟩ | ⟨b, h1, h2, ⟨an, h3, h4⟩, h5⟩
  · rw [h3] at e; cases e
  · rw [h2] at e; cases e; exact ⟨an, h3⟩

theorem OwnRow.msgs {h : H} {v : Value} {l : List Msg} {B : Nat} (o : OwnRow h v 3 l.length (mcells l) B) : MsgsAt h v l := by
  rcases o with ⟨h1, h2, h3⟩ | ⟨b, h1, h2, ⟨an, h3, h4⟩, h5⟩
  · exact .inl ⟨List.length_eq_zero_iff.1 h1, h3⟩
  · exact .inr ⟨b, 0, l.length, mcells l, 3, true, an, h2, h3, by rw [h5]; omega, by rw [List.drop_zero, List.take_of_length_le (by rw [h5]; omega)]⟩

/-- One more at the end of a row of one's own: a new block. -/
theorem append1 {h : H} {v : Value} {es n bytes : Nat} {cs : List Value} {B : Nat} (hB : B ≤ h.size) (o : OwnRow h v es n cs B) (m : List Value) (hm : m.length = es) (hl : (n + 1) * bytes ≤ 2 ^ 47) :
    ∃ h', appendTo h es bytes v 1 m = some (.slice (some ⟨h.size, 0, none⟩) (n + 1) (n + 1), h') ∧ h'.size = h.size + 1 ∧ OwnRow h' (.slice (some ⟨h.size, 0, none⟩) (n + 1) (n + 1)) es (n + 1) (cs ++ m) B ∧ Keeps h h' fun x => B ≤ x ∧ ∃ n, v = .slice (some ⟨x, 0, none⟩) n n := by
  rcases o with ⟨rfl, rfl, rfl⟩ | ⟨b, hb, rfl, ⟨an, hbl, han⟩, hlen⟩
  · have hl' : 1 * bytes ≤ 2 ^ 47 := by simpa using hl
    refine ⟨Ev.newRow h m es [], by simp only [appendTo, if_neg (Nat.succ_ne_zero 0), if_pos hl'], by simp, .inr ⟨h.size, hB, by simp, ⟨[], ?_, by simp⟩, by simp [hm]⟩, (Keeps.refl _ _).row _ _ _⟩
    rw [newRow_new rfl]; simp
  · have hbs := lt_of_get hbl
    have h1 : ¬ (n + 1 ≤ n) := by omega
    have hbl' : h[b]? = some (.cells cs es true an) := hbl
    refine ⟨Ev.newRow (h.setIfInBounds b (.cells cs es false an)) (cs ++ m) es (b :: an), ?_, by simp, .inr ⟨h.size, hB, by simp, ⟨b :: an, ?_, ?_⟩, ?_⟩, ?_⟩
    · simp only [appendTo, if_neg (Nat.succ_ne_zero 0), if_neg h1, if_pos hl, hbl', hlen, Nat.zero_add, Nat.le_refl, and_self, if_true, List.drop_zero]
      rw [List.take_of_length_le (by omega)]
    · rw [newRow_new (by simp)]
    · intro a ha
      rcases List.mem_cons.1 ha with rfl | ha
      · exact hb
      · exact han a ha
    · rw [List.length_append, hlen, hm, Nat.add_mul, Nat.one_mul]
    · exact ((Keeps.refl h _).set (fun _ => ⟨hb, n, rfl⟩) _).row _ _ _

end Go.Proofs.Ytmenfnapbggglaa

/- short. -/
set_option linter.unusedSimpArgs false
set_option linter.unusedVariables false
namespace Go.Proofs.Ytmenfnapbggglaa
open Go.Ev

def cutM (m : Msg) : Msg := if 600 < slen m.b then ⟨m.fr, m.to, m.b.extract 0 600⟩ else m
def cut (l : List Msg) : List Msg := (l.take 300).map cutM

theorem cut_length (l : List Msg) : (cut l).length = min 300 l.length := by simp [cut]

theorem mcells_snoc (l : List Msg) (m : Msg) : mcells (l ++ [m]) = mcells l ++ m.cells := by simp [mcells]

theorem keeps_none {h h' : H} (k : Keeps h h' fun b => h.size ≤ b) : Keeps h h' fun _ => False := ⟨k.1, fun b hb _ => k.2 b hb (by omega)⟩

theorem short_loop (F0 : Nat) {c : CF} {v : Value} {l : List Msg} {h0 : H} (m0 : MsgsAt h0 v l) {ke : Nat → K} {kr : K} {Q : Value → H → Prop}
    (hk : ∀ acc h i, OwnRow h acc 3 (cut l).length (mcells (cut l)) h0.size → Keeps h0 h (fun _ => False) → Ans (ke 0 [(0, v), (3, acc), (4, i), (13, .bool false)] h []) Q) :
    ∀ (n i : Nat) (acc : Value) (h : H), i ≤ (cut l).length → 301 ≤ n + i → OwnRow h acc 3 i (mcells ((cut l).take i)) h0.size → Keeps h0 h (fun _ => False) →
      Ans (loopK F0 c [0, 3, 4] l14_9 ke kr n [(0, v), (3, acc), (4, .int .i64 i)] h []) Q := by
  have hcl := cut_length l
  intro n
  induction n with
  | zero => intro i acc h hi hn; omega
  | succ n ih =>
    intro i acc h hi hn o k
    have hlen : ∃ vb vn, v = .slice vb l.length vn ∧ (vb = none → l.length = 0 ∧ vn = 0) := by
      rcases m0 with ⟨rfl, rfl⟩ | ⟨b, o, c, cs, es, lv, an, h1, h2, h3, h4⟩
      · exact ⟨none, 0, rfl, fun _ => ⟨rfl, rfl⟩⟩
      · exact ⟨_, _, h1, nofun⟩
    rw [loopK_succ]
    generalize loopK F0 c [0, 3, 4] l14_9 ke kr n = again at ih ⊢
    simp [l14_9, r14_3]
    by_cases hil : i < (cut l).length
    · have hil' : i < l.length := by omega
      obtain ⟨b, o', cp, cs, es, lv, an, rfl, hb, hcs, hr⟩ := (m0.keeps k).read hil'
      have hbs := lt_of_get hb
      have h300 : (i : Int) < 300 := by omega
      simp [hil', h300, r14_4, hb, hcs, hr]
      have tail : ∀ h1 : H, hget h1 h.size = some (.cells (cutM l[i]).cells 0 true []) → Keeps h h1 (fun _ => False) →
          Ans (evC F0 c (.region r14_7 [0, 3, 4]) (evC F0 c (.region r14_8 [0, 3, 4]) (keepK [0, 3, 4] again) ke kr) (putK 1 (evC F0 c (.region r14_8 [0, 3, 4]) (keepK [0, 3, 4] again) ke kr) ke) kr
            [(0, .slice (some ⟨b, o', none⟩) l.length cp), (3, acc), (4, .int .i64 i), (5, .pointer (some ⟨h.size, 0, none⟩))] h1 []) Q := by
        intro h1 hg k1
        have hgs := lt_of_get hg
        have hks := k.1
        have o1 : OwnRow (Ev.newRow h1 (cutM l[i]).cells 3 []) acc 3 i (mcells ((cut l).take i)) h0.size :=
          o.keeps (k1.row _ _ _) (by simp)
        obtain ⟨h2, e2, s2, o2, k2⟩ := append1 (bytes := 32) (by simp; omega) o1 (cutM l[i]).cells rfl (by omega)
        have hw : IntKind.i64.wrap ((i : Int) + 1) = ((i + 1 : Nat) : Int) := by rw [wrap_in (by omega) (by omega)]; omega
        simp [Msg.cells] at hg e2
        simp [r14_7, r14_8, hg, srcOf, e2, hw]
        refine ih (i + 1) _ h2 hil (by omega) ?_ ?_
        · rw [List.take_add_one, List.getElem?_eq_getElem hil, Option.toList_some, mcells_snoc]
          have : (cut l)[i] = cutM l[i] := by simp [cut]
          rw [this]
          simpa using o2
        · exact keeps_none (((k.trans k1).weak (by simp)).trans ((((Keeps.refl h1 _).row _ _ _).trans (k2.weak fun _ q => q.1))))
      simp [r14_5]
      by_cases h600 : 600 < slen l[i].b
      · have h600' : (600 : Int) < (slen l[i].b : Int) := by omega
        have hle : 600 ≤ slen l[i].b := by omega
        simp [h600', r14_6, hle]
        refine tail _ ?_ ?_
        · simp [cutM, h600, Msg.cells]
        · repeat first | exact Keeps.refl _ _ | apply Keeps.row | refine Keeps.set_new ?_ (by omega) _
      · have h600' : ¬ (600 : Int) < (slen l[i].b : Int) := by omega
        simp [h600']
        refine tail _ ?_ ?_
        · simp [cutM, h600, Msg.cells]
        · repeat first | exact Keeps.refl _ _ | apply Keeps.row | refine Keeps.set_new ?_ (by omega) _
    · obtain ⟨vb, vn, rfl, hv⟩ := hlen
      have hie : i = (cut l).length := by omega
      have ho : OwnRow h acc 3 (cut l).length (mcells (cut l)) h0.size := by
        rw [hie, List.take_of_length_le (Nat.le_refl _)] at o; exact o
      cases vb with
      | none =>
        obtain ⟨h1, rfl⟩ := hv rfl
        have hi0 : i = 0 := by omega
        subst hi0
        have := hk acc h (.int .i64 0) ho k
        simp [h1] at this ⊢
        exact this
      | some a =>
        have := hk acc h (.int .i64 i) ho k
        by_cases h1 : i < l.length
        · have h300 : ¬ (i : Int) < 300 := by omega
          simp [h1, h300]
          exact this
        · simp [h1]
          exact this

theorem short_spec (F : Nat) (hF : 301 ≤ F) {v : Value} {l : List Msg} {h : H} (m : MsgsAt h v l) :
    Ans (cf (F + 1) 14 [v] h) fun r h' => OwnRow h' r 3 (cut l).length (mcells (cut l)) h.size ∧ Keeps h h' fun _ => False := by
  rw [cf_step (a := a14) rfl rfl (by simp [a14])]
  simp [a14, r14_0, r14_1, r14_2]
  refine short_loop F m ?_ F 0 _ h (by simp) (by omega) (.inl ⟨rfl, rfl, rfl⟩) (Keeps.refl _ _)
  intro acc h' i o k
  simp [r14_10]
  exact Ans.of ⟨o, k⟩

end Go.Proofs.Ytmenfnapbggglaa

/- Send of the program's line. -/
set_option linter.unusedSimpArgs false
set_option linter.unusedVariables false
namespace Go.Proofs.Ytmenfnapbggglaa
open Go.Ev

def sendM : Flight → Int → List Msg → Flight × Int × List Int
  | fl, last, [] => (fl, last, [])
  | fl, last, m :: r => if 256 ≤ fl.length then ((sendM fl last r).1, (sendM fl last r).2.1, -1 :: (sendM fl last r).2.2)
    else ((sendM (fl ++ [(last + 1, (m, false))]) (last + 1) r).1, (sendM (fl ++ [(last + 1, (m, false))]) (last + 1) r).2.1, (last + 1) :: (sendM (fl ++ [(last + 1, (m, false))]) (last + 1) r).2.2)

theorem sendM_fl : ∀ (l : List Msg) {fl : Flight} {last : Int}, Fl fl last → Fl (sendM fl last l).1 (sendM fl last l).2.1 ∧ (sendM fl last l).2.1 ≤ last + l.length ∧ (sendM fl last l).2.2.length = l.length
  | [], _, _, w => ⟨w, by simp [sendM], rfl⟩
  | m :: r, fl, last, w => by
    unfold sendM
    split
    · obtain ⟨h1, h2, h3⟩ := sendM_fl r w
      exact ⟨h1, by simp; omega, by simp [h3]⟩
    · obtain ⟨h1, h2, h3⟩ := sendM_fl r (w.put (m, false))
      exact ⟨h1, by simp; omega, by simp [h3]⟩

def ints (l : List Int) : List Value := l.map (.int .i64)

theorem MsgsAt.far {h h' : H} {S : Nat → Prop} {v : Value} {l : List Msg} (m : MsgsAt h v l) (k : Keeps h h' S) (hs : ∀ b o n c, v = .slice (some ⟨b, o, none⟩) n c → ¬ S b) : MsgsAt h' v l := by
  rcases m with m | ⟨b, o, c, cs, es, lv, an, h1, h2, h3, h4⟩
  · exact .inl m
  · exact .inr ⟨b, o, c, cs, es, lv, an, h1, k.get h2 (hs _ _ _ _ h1), h3, h4⟩

theorem drop_cons {α : Type} {l : List α} {i : Nat} {r : α} {rest : List α} (h : l.drop i = r :: rest) : l.drop (i + 1) = rest ∧ l.take (i + 1) = l.take i ++ [r] := by
  have h0 : l[i]? = some r := by
    have := congrArg (fun q => q[0]?) h
    simpa using this
  constructor
  · have := congrArg List.tail h
    simpa using this
  · rw [List.take_add_one, h0]; rfl

/-- Where the line's map is now, if it was there or not. -/
def Later (B : Nat) (m m' : Option Nat) : Prop := m' = m ∨ (m = none ∧ ∃ x, m' = some x ∧ B ≤ x)

theorem send_loop (F : Nat) {c : CF} (hc : c = cf (F + 1)) {F0 : Nat} {v : Value} {l : List Msg} {h0 : H} {b : Nat} {m0 : Option Nat} (mv : MsgsAt h0 v l) (hb0 : b < h0.size)
    (hfar : ∀ x o n c, v = .slice (some ⟨x, o, none⟩) n c → ¬ (x = b ∨ m0 = some x)) {ke : Nat → K} {kr : K} {Q : Value → H → Prop} {fe : Flight} {le : Int} {ne : List Int}
    (hk : ∀ acc h i m, OwnRow h acc 1 ne.length (ints ne) h0.size → Keeps h0 h (fun x => x = b ∨ m0 = some x) → LineAt h b m fe le → Later h0.size m0 m →
      Ans (ke 0 [(0, .pointer (some ⟨b, 0, none⟩)), (5, acc), (8, v), (9, .int .i64 l.length), (10, i), (11, .bool false)] h []) Q) :
    ∀ (n i : Nat) (acc : Value) (ns : List Int) (h : H) (m : Option Nat) (fl : Flight) (last : Int), i ≤ l.length → l.length < n + i → ns.length = i → l.length ≤ 100000 → last + (l.length - i : Nat) ≤ 1000000000 →
      sendM fl last (l.drop i) = (fe, le, ne.drop i) → ne.take i = ns → Fl fl last →
      OwnRow h acc 1 i (ints ns) h0.size → Keeps h0 h (fun x => x = b ∨ m0 = some x) → LineAt h b m fl last → Later h0.size m0 m →
      Ans (loopK F0 c [0, 5, 8, 9, 10] l16_7 ke kr n [(0, .pointer (some ⟨b, 0, none⟩)), (5, acc), (8, v), (9, .int .i64 l.length), (10, .int .i64 i)] h []) Q := by
  intro n
  induction n with
  | zero => intro i acc ns h m fl last hi hn; omega
  | succ n ih =>
    intro i acc ns h m fl last hi hn hns hmax hlast hsend htk hfl o k la lat
    rw [loopK_succ]
    generalize loopK F0 c [0, 5, 8, 9, 10] l16_7 ke kr n = again at ih ⊢
    by_cases hil : i < l.length
    · have mv1 := mv.far k hfar
      obtain ⟨vb, vo, cp, cs, es, lv, an, rfl, hb, hcs, hr⟩ := mv1.read hil
      have hbs := lt_of_get hb
      have hks := k.1
      simp [l16_7, r16_3, hil, r16_4, r16_5, hb, hcs, hr]
      have la1 := la.keeps0 (((Keeps.refl h _).row [.int .i64 0, .int .i64 0, .string { data := #[] }] 0 []).set_new (Nat.le_refl _) (.cells [.int .i64 (l[i]).fr, .int .i64 (l[i]).to, .string (l[i]).b] 0 true []))
      have hput := put_spec F la1 hfl (by omega) (l[i], false)
      rw [← hc] at hput
      refine Ans.next hput ?_
      intro w h2 hq
      have hdrop : l.drop i = l[i] :: l.drop (i + 1) := List.drop_eq_getElem_cons hil
      rw [hdrop] at hsend
      have hbB : ∀ x, h0.size ≤ x → ¬ x = b := fun x hx e => by omega
      have step : ∀ (r : Int) (h2 : H) (m2 : Option Nat) (fl2 : Flight) (last2 : Int), ne.drop i = r :: ne.drop (i + 1) → ne.take (i + 1) = ns ++ [r] → sendM fl2 last2 (l.drop (i + 1)) = (fe, le, ne.drop (i + 1)) → last2 + (l.length - (i + 1) : Nat) ≤ 1000000000 → Fl fl2 last2 →
          OwnRow h2 acc 1 i (ints ns) h0.size → Keeps h0 h2 (fun x => x = b ∨ m0 = some x) → LineAt h2 b m2 fl2 last2 → Later h0.size m0 m2 →
          Ans (evR c [⟨some 19, none, .op (.mkSlice 1 1 [.int .i64 0] [(0, 1, .tmp 18)])⟩, ⟨some 20, none, .op (.append false 1 8 (.tmp 14) (.tmp 19))⟩, ⟨some 5, none, .op (.mv (.tmp 20))⟩]
            (setD [(17, pval (l[i], false)), (16, (l[i]).val), (15, .pointer (some ⟨b, 0, none⟩)), (14, acc), (0, .pointer (some ⟨b, 0, none⟩)), (5, acc), (7, .pointer (some ⟨h.size, 0, none⟩)), (8, .slice (some ⟨vb, vo, none⟩) l.length cp), (9, .int .i64 l.length), (10, .int .i64 i)] (some 18) (.int .i64 r)) h2
            (evC F0 c (.region r16_6 [0, 5, 8, 9, 10]) (keepK [0, 5, 8, 9, 10] again) ke kr) [0, 5, 8, 9, 10] []) Q := by
        intro r h2 m2 fl2 last2 e1 e2 e3 e4 hfl2 o2 k2 la2 lat2
        have hk2s := k2.1
        have la3 := la2.keeps0 ((Keeps.refl h2 _).row [.int .i64 r] 1 [])
        have o3 : OwnRow (Ev.newRow h2 [.int .i64 r] 1 []) acc 1 i (ints ns) h0.size := o2.keeps ((Keeps.refl h2 (fun _ => False)).row _ _ _) (by simp)
        obtain ⟨h4, e5, s4, o4, k4⟩ := append1 (bytes := 8) (by simp; omega) o3 [.int .i64 r] rfl (by omega)
        have hw : IntKind.i64.wrap ((i : Int) + 1) = ((i + 1 : Nat) : Int) := by rw [wrap_in (by omega) (by omega)]; omega
        simp at e5
        simp [srcOf, e5, r16_6, hw]
        refine ih (i + 1) _ (ns ++ [r]) h4 m2 fl2 last2 hil (by omega) (by simp [hns]) hmax e4 e3 e2 hfl2 ?_ ?_ (la3.keeps k4 ?_ ?_) lat2
        · simpa [ints] using o4
        · exact k2.past (((Keeps.refl h2 _).row _ _ _).trans (k4.weak fun _ q => .inr q.1))
        · rintro ⟨q, _⟩; omega
        · rintro x hx ⟨q1, n', q2⟩
          obtain ⟨an', q3⟩ := o3.at q2
          rw [(la3.yes x hx).2] at q3
          cases q3
      have hcellsNot : ∀ (hA : H) (flA : Flight) (lastA : Int), LineAt hA b m flA lastA → ∀ x cs' es' an', h0.size ≤ x → hget hA x = some (.cells cs' es' true an') → ¬ (x = b ∨ m = some x) := by
        rintro hA flA lastA lA x cs' es' an' hx hg (rfl | hm)
        · omega
        · rw [(lA.yes x hm).2] at hg; cases hg
      by_cases hfull : 256 ≤ fl.length
      · rw [if_pos hfull] at hq
        obtain ⟨rfl, k2⟩ := hq
        unfold sendM at hsend
        rw [if_pos hfull] at hsend
        have hne : ne.drop i = -1 :: (sendM fl last (l.drop (i + 1))).2.2 := by injection hsend with _ q; injection q with _ q; exact q.symm
        obtain ⟨d1, d2⟩ := drop_cons hne
        rw [htk] at d2
        refine step (-1) h2 m fl last (by rw [d1]; exact hne) d2 ?_ (by omega) hfl ?_ ?_ ?_ lat
        · rw [d1]
          injection hsend with q1 q; injection q with q2 q3
          rw [← q1, ← q2]
        · exact o.keeps (((Keeps.refl h (fun _ => False)).row _ _ _).set_new (Nat.le_refl _) _ |>.trans k2) (by simp)
        · exact k.trans ((((Keeps.refl h (fun _ => False)).row _ _ _).set_new (Nat.le_refl _) _ |>.trans k2).weak (fun _ q => q.elim))
        · exact la1.keeps0 k2
      · rw [if_neg hfull] at hq
        obtain ⟨rfl, k2, m', la2, hm'⟩ := hq
        unfold sendM at hsend
        rw [if_neg hfull] at hsend
        have hne : ne.drop i = (last + 1) :: (sendM (fl ++ [(last + 1, (l[i], false))]) (last + 1) (l.drop (i + 1))).2.2 := by injection hsend with _ q; injection q with _ q; exact q.symm
        obtain ⟨d1, d2⟩ := drop_cons hne
        rw [htk] at d2
        have hA : Keeps h (Array.setIfInBounds (Ev.newRow h [.int .i64 0, .int .i64 0, .string { data := #[] }] 0 []) h.size (.cells [.int .i64 (l[i]).fr, .int .i64 (l[i]).to, .string (l[i]).b] 0 true [])) fun _ => False := ((Keeps.refl h _).row _ _ _).set_new (Nat.le_refl _) _
        refine step (last + 1) h2 (some m') _ _ (by rw [d1]; exact hne) d2 ?_ (by omega) (hfl.put _) ?_ ?_ la2 ?_
        · rw [d1]
          injection hsend with q1 q; injection q with q2 q3
          rw [← q1, ← q2]
        · have oA := o.keeps hA (by simp)
          exact oA.keeps' k2 fun x an hx hg => hcellsNot _ _ _ la1 x _ _ _ hx hg
        · refine k.past ((hA.weak (fun _ q => q.elim)).trans (k2.weak fun x q => ?_))
          rcases q with q | q
          · exact .inl (.inl q)
          · rcases lat with rfl | ⟨_, y, e, hy⟩
            · exact .inl (.inr q)
            · rw [e] at q; cases q; exact .inr hy
        · rcases hm' with e | ⟨e, e'⟩
          · rcases lat with rfl | ⟨q1, y, q2, hy⟩
            · exact .inl e.symm
            · rw [q2] at e; cases e; exact .inr ⟨q1, _, rfl, hy⟩
          · simp at e'
            rcases lat with rfl | ⟨q1, y, q2, hy⟩
            · exact .inr ⟨e, m', rfl, by omega⟩
            · rw [q2] at e; cases e
    · have hie : i = l.length := by omega
      subst hie
      simp [l16_7, r16_3]
      rw [List.drop_of_length_le (Nat.le_refl _)] at hsend
      unfold sendM at hsend
      injection hsend with q1 q; injection q with q2 q3
      subst q1 q2
      have hn : ne = ns := by
        rw [← htk]
        have := List.take_append_drop l.length ne
        rw [← q3, List.append_nil] at this
        exact this.symm
      subst hn
      rw [hns] at hk
      exact hk acc h (.int .i64 l.length) m o k la lat

theorem send_spec (F : Nat) {v : Value} {l : List Msg} {h : H} {b : Nat} {m : Option Nat} {fl : Flight} {last : Int} (hF : l.length ≤ F) (hl : l.length ≤ 100000) (mv : MsgsAt h v l) (la : LineAt h b m fl last) (w : Fl fl last) (hlast : last + l.length ≤ 1000000000)
    (hfar : ∀ x o n c, v = .slice (some ⟨x, o, none⟩) n c → ¬ (x = b ∨ m = some x)) :
    Ans (cf (F + 2) 16 [.pointer (some ⟨b, 0, none⟩), v] h) fun r h' => OwnRow h' r 1 l.length (ints (sendM fl last l).2.2) h.size ∧ (Keeps h h' fun x => x = b ∨ m = some x) ∧
      ∃ m', LineAt h' b m' (sendM fl last l).1 (sendM fl last l).2.1 ∧ Later h.size m m' := by
  have hbs := lt_of_get la.line
  obtain ⟨_, _, hnl⟩ := sendM_fl l w
  rw [cf_step (a := a16) rfl rfl (by simp [a16])]
  have hlen : ∃ vb vn, v = .slice vb l.length vn ∧ (vb = none → l.length = 0 ∧ vn = 0) := by
    rcases mv with ⟨rfl, rfl⟩ | ⟨b, o, c, cs, es, lv, an, h1, h2, h3, h4⟩
    · exact ⟨none, 0, rfl, fun _ => ⟨rfl, rfl⟩⟩
    · exact ⟨_, _, h1, nofun⟩
  have main := send_loop F rfl (F0 := F + 1) mv hbs hfar (ke := putK 0 (evC (F + 1) (cf (F + 1)) (.seq (.region r16_8 [4]) .ret) (endK (cfX fun _ => none) [.tmp 4]) noK (endK (cfX fun _ => none) [.tmp 4])) noK)
    (kr := endK (cfX fun _ => none) [.tmp 4])
    (Q := fun r h' => OwnRow h' r 1 l.length (ints (sendM fl last l).2.2) h.size ∧ (Keeps h h' fun x => x = b ∨ m = some x) ∧ ∃ m', LineAt h' b m' (sendM fl last l).1 (sendM fl last l).2.1 ∧ Later h.size m m')
    (fe := (sendM fl last l).1) (le := (sendM fl last l).2.1) (ne := (sendM fl last l).2.2)
    (by
      intro acc h' i m' o k la' lat
      simp [r16_8]
      rw [hnl] at o
      exact Ans.of ⟨o, k, m', la', lat⟩)
    (F + 1) 0 (.slice none 0 0) [] h m fl last (by omega) (by omega) rfl hl (by simpa using hlast) rfl rfl w (.inl ⟨rfl, rfl, rfl⟩) (Keeps.refl _ _) la (.inl rfl)
  obtain ⟨vb, vn, rfl, hv⟩ := hlen
  cases vb with
  | none =>
    obtain ⟨h1, rfl⟩ := hv rfl
    simp [h1] at main
    simp [a16, r16_0, r16_1, r16_2, h1]
    exact main
  | some a =>
    simp [a16, r16_0, r16_1, r16_2]
    exact main

end Go.Proofs.Ytmenfnapbggglaa

/- Spoil of the program's line. -/
set_option linter.unusedSimpArgs false
set_option linter.unusedVariables false
namespace Go.Proofs.Ytmenfnapbggglaa
open Go.Ev

/-- A byte turned. -/
def xorB (x : UInt8) (turn : Int) : UInt8 := UInt8.ofNat (uxor .u8 x.toNat (IntKind.u8.wrap turn)).toNat

theorem xorB_int (x : UInt8) (turn : Int) : uxor .u8 x.toNat (IntKind.u8.wrap turn) = ((xorB x turn).toNat : Int) := by
  have := uxor_u8 x.toNat (IntKind.u8.wrap turn)
  unfold xorB
  rw [UInt8.toNat_ofNat']
  omega

def turnB (t : ByteArray) (i : Nat) (turn : Int) : ByteArray := ⟨⟨t.data.toList.set i (xorB (t.data.toList.getD i 0) turn)⟩⟩

theorem strOf_bytes : ∀ l : List UInt8, strOf (l.map fun b => .int .u8 b.toNat) = some l
  | [] => rfl
  | c :: l => by simp [strOf, strOf_bytes l]

set_option maxHeartbeats 2000000 in
theorem spoil_spec (F : Nat) {h : H} {b : Nat} {m : Option Nat} {fl : Flight} {last : Int} (l : LineAt h b m fl last) (n at' turn : Int) :
    Ans (cf (F + 2) 18 [.pointer (some ⟨b, 0, none⟩), .int .i64 n, .int .i64 at', .int .i64 turn] h) fun v h' =>
      match lk n fl 0 with
      | none => v = .int .i64 160 ∧ Keeps h h' fun _ => False
      | some (i, p) => if at' < 0 ∨ turn < 1 ∨ 255 < turn ∨ slen p.1.b = 0 then v = .int .i64 1 ∧ Keeps h h' fun _ => False
        else if p.2 = true then v = .int .i64 161 ∧ Keeps h h' fun _ => False
        else v = .int .i64 0 ∧ (Keeps h h' fun x => m = some x) ∧ LineAt h' b m (fl.set i (n, ⟨p.1.fr, p.1.to, turnB p.1.b (at' % slen p.1.b).toNat turn⟩, true)) last := by
  have hbs := lt_of_get l.line
  rw [cf_step (a := a18) rfl rfl (by simp [a18])]
  simp [a18, r18_0, r18_1]
  refine Ans.next (look_spec F l n) ?_
  rintro v h1 ⟨rfl, k1⟩
  have l1 := l.keeps0 k1
  have hb := l1.line
  have hbs1 := lt_of_get hb
  have k1' := k1.1
  cases hlk : lk n fl 0 with
  | none =>
    simp [Msg.zero, Msg.val, Msg.cells, r18_2, r18_3]
    refine Ans.of ?_
    refine ⟨rfl, ?_⟩
    exact Keeps.set_new (Keeps.row k1 _ _ _) k1' _
  | some q =>
    obtain ⟨i, p⟩ := q
    obtain ⟨x, rfl⟩ := l.some_of hlk
    have hx0 := lt_of_get (l.yes x rfl).2
    obtain ⟨hx1, hx2⟩ := l1.yes x rfl
    have hxs := lt_of_get hx2
    have hf := findM_ents n fl 0
    rw [hlk] at hf
    simp [Msg.val, Msg.cells, r18_2, r18_4]
    by_cases c1 : at' < 0
    · simp [c1, r18_5]
      refine Ans.of ?_
      refine ⟨rfl, ?_⟩
      exact Keeps.set_new (Keeps.row k1 _ _ _) k1' _
    by_cases c2 : turn < 1
    · simp [c1, c2, r18_5]
      refine Ans.of ?_
      refine ⟨rfl, ?_⟩
      exact Keeps.set_new (Keeps.row k1 _ _ _) k1' _
    by_cases c3 : 255 < turn
    · simp [c1, c2, c3, r18_5]
      refine Ans.of ?_
      refine ⟨rfl, ?_⟩
      exact Keeps.set_new (Keeps.row k1 _ _ _) k1' _
    by_cases c4 : slen p.1.b = 0
    · have c4' : (((slen p.1.b : Nat) : Int) == 0) = true := by simp [c4]
      simp [c4', c1, c2, c3, c4, r18_5]
      refine Ans.of ?_
      refine ⟨rfl, ?_⟩
      exact Keeps.set_new (Keeps.row k1 _ _ _) k1' _
    have c4' : (((slen p.1.b : Nat) : Int) == 0) = false := by simp [c4]
    have c4z : ¬ ((slen p.1.b : Nat) : Int) = 0 := by omega
    simp [c4', c1, c2, c3, c4, r18_6, hb, hbs, hbs1, hxs, hx2, hf, ne_at hbs1, ne_at' hbs1, ne_at hxs, ne_at' hxs, pval, pcells, Msg.cells]
    cases c5 : p.2 with
    | true =>
      simp [r18_7]
      refine Ans.of ?_
      refine ⟨rfl, ?_⟩
      exact Keeps.set_new (Keeps.row k1 _ _ _) k1' _
    | false =>
      obtain ⟨j, hj⟩ : ∃ j : Nat, (at' % (slen p.1.b : Int)).toNat = j := ⟨_, rfl⟩
      have hjl : j < slen p.1.b := by
        have := Int.emod_lt_of_pos at' (show (0 : Int) < (slen p.1.b : Int) by omega)
        have := Int.emod_nonneg at' c4z
        omega
      have htm : at'.tmod (slen p.1.b : Int) = (j : Int) := by
        rw [Int.tmod_eq_emod_of_nonneg (by omega)]
        have := Int.emod_nonneg at' c4z
        omega
      rw [hj]
      obtain ⟨c, hc⟩ : ∃ c, p.1.b.data.toList.getD j 0 = c := ⟨_, rfl⟩
      have hdl : j < p.1.b.data.toList.length := by
        have : p.1.b.data.toList.length = slen p.1.b := by rw [Array.length_toList]; rfl
        omega
      have hget : (bytesOf p.1.b).drop j = .int .u8 c.toNat :: (bytesOf p.1.b).drop (j + 1) := by
        have h1 : p.1.b.data.toList.drop j = c :: p.1.b.data.toList.drop (j + 1) := by
          rw [List.drop_eq_getElem_cons hdl, ← hc, List.getD_eq_getElem?_getD, List.getElem?_eq_getElem hdl]; rfl
        unfold bytesOf
        rw [← List.map_drop, h1, List.map_cons, List.map_drop]
      have hjl' : j + 1 ≤ slen p.1.b := hjl
      have hstr : strOf ((bytesOf p.1.b).take j ++ .int .u8 (uxor .u8 c.toNat (IntKind.u8.wrap turn)) :: (bytesOf p.1.b).drop (j + 1)) = some (turnB p.1.b j turn).data.toList := by
        have : (bytesOf p.1.b).take j ++ .int .u8 (uxor .u8 c.toNat (IntKind.u8.wrap turn)) :: (bytesOf p.1.b).drop (j + 1) = (turnB p.1.b j turn).data.toList.map fun b => .int .u8 b.toNat := by
          unfold turnB bytesOf
          rw [xorB_int, hc]
          simp only [List.toList_toArray, List.set_eq_take_append_cons_drop, if_pos hdl, List.map_append, List.map_cons, List.map_take, List.map_drop]
        rw [this, strOf_bytes]
      have hlen : (bytesOf p.1.b).length = slen p.1.b := bytesOf_len _
      have hlen2 : ((bytesOf p.1.b).take j ++ .int .u8 (uxor .u8 c.toNat (IntKind.u8.wrap turn)) :: (bytesOf p.1.b).drop (j + 1)).length = slen p.1.b := by
        rw [List.length_append, List.length_cons, List.length_take, List.length_drop, hlen]; omega
      simp [r18_8, r18_9, c4, c4z, htm, hjl, hjl', hget]
      generalize (bytesOf p.1.b).take j ++ .int .u8 (uxor .u8 c.toNat (IntKind.u8.wrap turn)) :: (bytesOf p.1.b).drop (j + 1) = L at hstr hlen2 ⊢
      have htk : L.take (slen p.1.b) = L := List.take_of_length_le (by omega)
      simp [r18_10, c4, hlen2, htk, hstr, hb, hbs1, ne_at hbs1, ne_at' hbs1, ne_far hbs1, ne_far' hbs1, d18_11, hxs, hx2, hf, ne_at hxs, ne_at' hxs, ne_far hxs, ne_far' hxs, r18_12]
      refine Ans.of ?_
      refine ⟨rfl, ?_, ⟨?_, nofun, ?_⟩⟩
      · exact Keeps.set_may (Keeps.set_new (Keeps.set_new (Keeps.row (Keeps.set_new (Keeps.row (k1.weak (fun _ q => q.elim)) _ _ _) k1' _) _ _ _) (Nat.le_succ_of_le k1') _) k1' _) rfl _
      · simp [hbs, hbs1, hb, hx1, hx1.symm, ne_at hbs, ne_at' hbs, ne_at hbs1, ne_at' hbs1, ne_far hbs1, ne_far' hbs1]
      · intro y hy
        cases hy
        refine ⟨hx1, ?_⟩
        simp [hxs, hx0, ne_at hx0, ne_at' hx0, ne_at hxs, ne_at' hxs, ne_far hxs, ne_far' hxs, ents, lt_far hxs, pval, pcells, Msg.cells]

end Go.Proofs.Ytmenfnapbggglaa

/- known, near. -/
set_option linter.unusedSimpArgs false
set_option linter.unusedVariables false
namespace Go.Proofs.Ytmenfnapbggglaa
open Go.Ev

theorem later_some {h : H} {b B : Nat} {m m' : Option Nat} {p : Int × Parcel} {fl : Flight} {last : Int} (l : LineAt h b m' (p :: fl) last) : ∃ x, m' = some x := by
  cases m' with
  | some x => exact ⟨x, rfl⟩
  | none => cases l.no rfl

theorem ab_ac : (turnB str97_98 1 1 == str97_99) = true := by kernel_rfl
theorem ab_len : slen str97_98 = 2 := by kernel_rfl

theorem known_spec (F : Nat) (h : H) : Ans (cf (F + 1 + 2 + 1) 21 [] h) fun r h' => r = .bool true ∧ Keeps h h' fun _ => False := by
  have hnew : ∀ h, cf (F + 1 + 2) 15 [] h = _ := fun h => new_eq (F + 2) h
  have hnum : ∀ n h, cf (F + 1 + 2) 20 [.int .i64 n] h = some (.int .i64 n, h) := fun n h => num_eq (F + 2) n h
  have hsend := @send_spec (F + 1)
  have hspoil := @spoil_spec (F + 1)
  have htake := @take_spec (F + 1)
  rw [cf_step (a := a21) rfl rfl (by simp [a21])]
  generalize cf (F + 1 + 2) = c at hnew hnum hsend hspoil htake ⊢
  simp [a21, r21_0, r21_1, hnew, r21_2, r21_4]
  have hlen := ab_len
  have hac := ab_ac
  generalize str97_98 = ab at hlen hac ⊢
  have la : LineAt (Ev.newRow (Ev.newRow h [.map none, .int .i64 0] 0 []) [.int .i64 1, .int .i64 2, .string ab] 3 []) h.size none [] 0 :=
    ⟨by simp, fun _ => rfl, nofun⟩
  have mv : MsgsAt (Ev.newRow (Ev.newRow h [.map none, .int .i64 0] 0 []) [.int .i64 1, .int .i64 2, .string ab] 3 []) (.slice (some ⟨h.size + 1, 0, none⟩) 1 1) [⟨1, 2, ab⟩] :=
    .inr ⟨h.size + 1, 0, 1, [.int .i64 1, .int .i64 2, .string ab], 3, true, [], rfl, newRow_new (by simp), by simp, rfl⟩
  have k0 : Keeps h (Ev.newRow (Ev.newRow h [.map none, .int .i64 0] 0 []) [.int .i64 1, .int .i64 2, .string ab] 3 []) fun _ => False := ((Keeps.refl _ _).row _ _ _).row _ _ _
  generalize Ev.newRow (Ev.newRow h [.map none, .int .i64 0] 0 []) [.int .i64 1, .int .i64 2, .string ab] 3 [] = h0 at la mv k0 ⊢
  refine Ans.next (hsend (by simp) (by simp) mv la ⟨.nil, by simp, by simp⟩ (by simp) (by
    rintro x o n c e (rfl | e')
    · injection e with e1; injection e1 with e1; injection e1 with e1 e2; simp at e1
    · cases e')) ?_
  rintro r h1 ⟨or1, k1, m', la1, lat⟩
  simp [sendM] at la1 or1
  obtain ⟨x, rfl⟩ := later_some (B := 0) (m := none) la1
  have hx : h0.size ≤ x := by
    rcases lat with e | ⟨_, y, e, hy⟩
    · cases e
    · cases e; exact hy
  have hs0 := k0.1
  have hb0 := lt_of_get la.line
  simp [r21_5]
  refine Ans.next (hspoil la1 1 3 1) ?_
  intro w h2 hw
  simp [lk, hlen] at hw
  obtain ⟨rfl, k2, la2⟩ := hw
  simp [r21_6]
  refine Ans.next (htake la2 1) ?_
  intro w h3 hw
  simp [lk] at hw
  obtain ⟨rfl, k3, la3⟩ := hw
  simp [Msg.val, Msg.cells, r21_7]
  have la4 := la3.keeps0 (((Keeps.refl h3 _).row [.int .i64 0, .int .i64 0, .string { data := #[] }] 0 []).set_new (Nat.le_refl _) (.cells [.int .i64 1, .int .i64 2, .string (turnB ab 1 1)] 0 true []))
  refine Ans.next (htake la4 1) ?_
  intro w h4 hw
  simp [lk] at hw
  obtain ⟨rfl, k4⟩ := hw
  have hp : hget h4 h3.size = some (.cells [.int .i64 1, .int .i64 2, .string (turnB ab 1 1)] 0 true []) := k4.get (by simp) (by simp)
  have hps := lt_of_get hp
  have k34 : Keeps h3 h4 fun _ => False := (((Keeps.refl h3 _).row _ _ _).set_new (Nat.le_refl _) _).trans k4
  have or4 : OwnRow h4 r 1 1 (ints [1]) h0.size := by
    have a2 := or1.keeps' k2 fun b an _ hg e => by cases e; rw [(la1.yes x rfl).2] at hg; cases hg
    have a3 := a2.keeps' k3 fun b an _ hg e => by cases e; rw [(la2.yes x rfl).2] at hg; cases hg
    exact a3.keeps k34 (by simp)
  obtain ⟨q1, _⟩ | ⟨rb, hrb, rfl, ⟨an, hrg, _⟩, _⟩ := or4
  · cases q1
  have hrs := lt_of_get hrg
  simp [Msg.zero, Msg.val, Msg.cells, r21_8, hrg, hrs, hnum, hp, hps, ints, ne_at hrs, ne_at' hrs, ne_at hps, ne_at' hps, hac]
  refine Ans.of ⟨rfl, ?_⟩
  have k01 : Keeps h h1 fun _ => False := k0.past (k1.weak (by rintro y (rfl | e); exact .inr (Nat.le_refl _); cases e))
  have k12 : Keeps h h2 fun _ => False := k01.past (k2.weak (by rintro y rfl; exact .inr (by omega)))
  have k13 : Keeps h h3 fun _ => False := k12.past (k3.weak (by rintro y rfl; exact .inr (by omega)))
  have hs4 := (k13.trans k34).1
  exact ((k13.trans k34).row _ _ _).set_new (by omega) _

end Go.Proofs.Ytmenfnapbggglaa

/- Ev19: what is left as it was, by lists of blocks; a rule for loops; small equations. -/
set_option linter.unusedSimpArgs false
set_option linter.unusedVariables false
namespace Go.Ev

/-- What is left as it was: all that was there, but for the blocks of a list. -/
def Kept (h h' : H) (L : List Nat) : Prop := h.size ≤ h'.size ∧ ∀ b, b < h.size → b ∉ L → hget h' b = hget h b

theorem Kept.refl (h : H) (L : List Nat) : Kept h h L := ⟨Nat.le_refl _, fun _ _ _ => rfl⟩
theorem Kept.trans {h h1 h2 : H} {L : List Nat} (a : Kept h h1 L) (b : Kept h1 h2 L) : Kept h h2 L :=
  ⟨Nat.le_trans a.1 b.1, fun x hx hs => (b.2 x (Nat.lt_of_lt_of_le hx a.1) hs).trans (a.2 x hx hs)⟩
theorem Kept.get {h h' : H} {L : List Nat} (a : Kept h h' L) {b : Nat} (hb : b < h.size) (hs : b ∉ L) : hget h' b = hget h b := a.2 b hb hs
theorem Kept.weak {h h' : H} {L M : List Nat} (a : Kept h h' L) (hs : ∀ b ∈ L, b ∈ M) : Kept h h' M := ⟨a.1, fun b hb h => a.2 b hb fun q => h (hs b q)⟩
theorem Kept.of_nil {h h' : H} {L : List Nat} (a : Kept h h' []) : Kept h h' L := a.weak nofun

/-- A loop: a relation of what is left to do, the slots and the memory. -/
theorem loop_rule {cf : CF} {F0 : Nat} {live : List Nat} {c : ACode} {ke : Nat → K} {kr : K} {ds : Ds} {Q : Value → H → Prop} (I : Nat → Env → H → Prop)
    (step : ∀ m s h again, I m s h → (∀ m' s' h', m' < m → I m' s' h' → Ans (again s' h' ds) Q) → Ans (evC F0 cf c (keepK live again) ke kr s h ds) Q) :
    ∀ fuel m s h, m < fuel → I m s h → Ans (loopK F0 cf live c ke kr fuel s h ds) Q := by
  intro fuel
  induction fuel with
  | zero => intro m s h hm; omega
  | succ n ih =>
    intro m s h hm hi
    rw [loopK_succ]
    exact step m s h _ hi fun m' s' h' hlt hi' => ih m' s' h' (by omega) hi'

theorem wrap_id {n : Int} (h1 : -9223372036854775808 ≤ n) (h2 : n < 9223372036854775808) : IntKind.i64.wrap n = n := wrap_in h1 (by omega)

/-! ### decisions by arithmetic (for simp with omega as its discharger) -/
theorem eqT {a b : Int} (h : a = b) : (a == b) = true := by simpa using h
theorem eqF {a b : Int} (h : ¬ a = b) : (a == b) = false := by simpa using h
theorem neT {a b : Int} (h : ¬ a = b) : (a != b) = true := by simpa using h
theorem neF {a b : Int} (h : a = b) : (a != b) = false := by simpa using h
theorem ltT {a b : Int} (h : a < b) : (a < b) = True := by simpa using h
theorem ltF {a b : Int} (h : ¬ a < b) : (a < b) = False := by simpa using h
theorem leT {a b : Int} (h : a ≤ b) : (a ≤ b) = True := by simpa using h
theorem leF {a b : Int} (h : ¬ a ≤ b) : (a ≤ b) = False := by simpa using h
theorem nltT {a b : Nat} (h : a < b) : (a < b) = True := by simpa using h
theorem nltF {a b : Nat} (h : ¬ a < b) : (a < b) = False := by simpa using h
theorem nleT {a b : Nat} (h : a ≤ b) : (a ≤ b) = True := by simpa using h
theorem nleF {a b : Nat} (h : ¬ a ≤ b) : (a ≤ b) = False := by simpa using h
theorem nneT {a b : Nat} (h : a = b) : (a = b) = True := by simpa using h
theorem nneF {a b : Nat} (h : ¬ a = b) : (a = b) = False := by simpa using h

@[simp] theorem set_push {h : H} {x y : Blk} {b : Nat} (hb : b = h.size) : Array.setIfInBounds (h.push x) b y = h.push y := by
  subst hb
  apply Array.ext
  · simp
  · intro i h1 h2
    simp only [Array.size_setIfInBounds, Array.size_push] at h1
    rw [Array.getElem_setIfInBounds]
    · by_cases e : h.size = i
      · subst e; simp
      · rw [if_neg e, Array.getElem_push_lt (by omega), Array.getElem_push_lt (by omega)]
    · simpa using h1
@[simp] theorem set_row {h : H} {cs : List Value} {es b : Nat} {an : List Nat} {y : Blk} (hb : b = h.size) : Array.setIfInBounds (newRow h cs es an) b y = h.push y := set_push hb
theorem push_row {h : H} {cs : List Value} {es : Nat} {an : List Nat} : h.push (.cells cs es true an) = newRow h cs es an := rfl
attribute [simp] push_row

/-! ### drawn regions in which nothing is read beside a write: no record is kept -/
def evE (cf : CF) (l : List DOp) (s : Env) (h : H) (kn : K) (keep : List Nat) (ds : Ds) : Res := goD cf l s h fun _ s' h' => kn (s'.keep keep) h' ds
def nextE (x : Option (Value × H)) (cf : CF) (d : Option Nat) (l : List DOp) (s : Env) (kn : K) (keep : List Nat) (ds : Ds) : Res := match x with
  | some (v, h') => evE cf l (setD s d v) h' kn keep ds
  | none => none
def guardE (v : Value) (b : Bool) (ac : AAct) (cf : CF) (d : Option Nat) (l : List DOp) (e s : Env) (h : H) (kn : K) (keep : List Nat) (ds : Ds) : Res := match v with
  | .bool c => bif c == b then nextE (evAct cf ac e h) cf d l s kn keep ds else evE cf l (setD s d unset) h kn keep ds
  | .tuple ⟨[]⟩ => evE cf l (setD s d unset) h kn keep ds
  | _ => none
section
variable {cf : CF} {F : Nat} {s e : Env} {h : H} {kn kr : K} {ke : Nat → K} {ds : Ds} {keep : List Nat} {d : Option Nat} {v : Value} {l : List DOp}
@[simp high] theorem evC_regionE {ops : List DOp} : evC F cf (.regionD ops [] keep) kn ke kr s h ds = evE cf ops s h kn keep ds := by
  show evRegionD cf ops [] s h _ = _
  unfold evE evRegionD
  rw [goD_eq]
  cases trace cf ops s h with
  | none => rfl
  | some p => obtain ⟨a, b, c⟩ := p; simp [chks]
@[simp] theorem evE_nil : evE cf [] s h kn keep ds = kn (s.keep keep) h ds := nr rfl
@[simp] theorem evE_op {i : Nat} {o : AOp} {sl : List Nat} : evE cf (⟨i, ⟨d, none, .op o⟩, sl⟩ :: l) s h kn keep ds = nextE (evOp o (s.keep sl) h) cf d l s kn keep ds := by
  simp only [evE, goD, wantedA, evAct, nextE]
  cases evOp o (s.keep sl) h with
  | none => rfl
  | some p => rfl
@[simp] theorem evE_call {i : Nat} {f : Operand} {args : List Operand} {sl : List Nat} : evE cf (⟨i, ⟨d, none, .call f args⟩, sl⟩ :: l) s h kn keep ds = nextE (callV cf (aeval (s.keep sl) f) (args.map (aeval (s.keep sl))) h) cf d l s kn keep ds := by
  have e : evAct cf (.call f args) (s.keep sl) h = callV cf (aeval (s.keep sl) f) (args.map (aeval (s.keep sl))) h := by
    simp only [evAct, callV]
    split <;> (rename_i hf; split <;> simp_all)
  rw [← e]
  simp only [evE, goD, wantedA, nextE]
  cases evAct cf (.call f args) (s.keep sl) h with
  | none => rfl
  | some p => rfl
@[simp] theorem evE_guard {i t : Nat} {b : Bool} {ac : AAct} {sl : List Nat} : evE cf (⟨i, ⟨d, some (t, b), ac⟩, sl⟩ :: l) s h kn keep ds = guardE ((s.keep sl).get t) b ac cf d l (s.keep sl) s h kn keep ds := by
  simp only [evE, goD, wantedA, guardE]
  generalize (s.keep sl).get t = u
  cases u with
  | bool c =>
    cases hcb : c == b with
    | true =>
      simp only [hcb, cond_true, nextE]
      cases evAct cf ac (s.keep sl) h with
      | none => rfl
      | some p => rfl
    | false => simp [hcb, evE]
  | tuple vs =>
    obtain ⟨l'⟩ := vs
    cases l' with
    | nil => simp [evE]
    | cons _ _ => rfl
  | _ => rfl
@[simp] theorem nextE_some {h' : H} : nextE (some (v, h')) cf d l s kn keep ds = evE cf l (setD s d v) h' kn keep ds := nr rfl
@[simp] theorem guardE_tt {ac : AAct} : guardE (.bool true) true ac cf d l e s h kn keep ds = nextE (evAct cf ac e h) cf d l s kn keep ds := nr rfl
@[simp] theorem guardE_ff {ac : AAct} : guardE (.bool false) false ac cf d l e s h kn keep ds = nextE (evAct cf ac e h) cf d l s kn keep ds := nr rfl
@[simp] theorem guardE_tf {ac : AAct} : guardE (.bool true) false ac cf d l e s h kn keep ds = evE cf l (setD s d unset) h kn keep ds := nr rfl
@[simp] theorem guardE_ft {ac : AAct} : guardE (.bool false) true ac cf d l e s h kn keep ds = evE cf l (setD s d unset) h kn keep ds := nr rfl
@[simp] theorem guardE_un {b : Bool} {ac : AAct} : guardE unset b ac cf d l e s h kn keep ds = evE cf l (setD s d unset) h kn keep ds := nr rfl
theorem Ans.nextE {x : Option (Value × H)} {Q R : Value → H → Prop} (a : Ans x Q) (hk : ∀ v h, Q v h → Ans (evE cf l (setD s d v) h kn keep ds) R) : Ans (Ev.nextE x cf d l s kn keep ds) R := by
  obtain ⟨v, h, rfl, q⟩ := a; exact hk v h q
theorem evAct_call {f : Operand} {args : List Operand} : evAct cf (.call f args) s h = callV cf (aeval s f) (args.map (aeval s)) h := by
  simp only [evAct, callV]
  split <;> (rename_i hf; split <;> simp_all)
attribute [simp] evAct_call
theorem Ans.nextD {x : Option (Value × H)} {Q R : Value → H → Prop} {ts : List TR} {q : DK} (a : Ans x Q) (hk : ∀ v h', Q v h' → Ans (evD cf l (ts ++ [⟨e, h, true, v⟩]) (setD s d v) h' q) R) : Ans (Ev.nextD x cf d l ts e s h q) R := by
  obtain ⟨v, h, rfl, q⟩ := a; exact hk v h q
end

/-- An append whose source is known. -/
def appV (src : Option (Nat × List Value)) (h : H) (es bytes : Nat) (d : Value) : Option (Value × H) := match src with
  | some (n, new) => if new.all oneCell = true then appendTo h es bytes d n new else none
  | none => none
@[simp ↓ high] theorem evOp_append {str : Bool} {es bytes : Nat} {d x : Operand} {s : Env} {h : H} : evOp (.append str es bytes d x) s h = if isText (aeval s x) = str then appV (srcOf h es (aeval s x)) h es bytes (aeval s d) else none := nr rfl
@[simp] theorem appV_some {n : Nat} {new : List Value} {h : H} {es bytes : Nat} {d : Value} : appV (some (n, new)) h es bytes d = if new.all oneCell = true then appendTo h es bytes d n new else none := nr rfl

/-! ### the looks again, one by one -/
def chkA (cf : CF) (d : Option DOp) (t : Option TR) (ts : List TR) (h1 : H) (ps : List Nat) : Bool := match d, t with
  | some d, some t => ps.all fun p => chk1 cf d t (hAt ts h1 p)
  | _, _ => false
def chkV (x : Option (Value × H)) (w : Value) : Bool := match x with
  | some (v, _) => sameV v w
  | none => false
def hOf (x : Option TR) (h1 : H) : H := match x with
  | some t => t.hin
  | none => h1
section
variable {cf : CF} {ops : List DOp} {ts : List TR} {h h1 : H} {wins : List (Nat × List Nat)} {keep : List Nat} {kn : K} {ds : Ds} {s e : Env}
theorem dk_go : DK.go cf ⟨ops, wins, keep, kn, ds⟩ ts s h = if chks cf ops ts h wins = true then kn (s.keep keep) h ds else none := nr rfl
theorem chks_nil : chks cf ops ts h1 [] = true := nr rfl
theorem chks_cons {x : Nat} {ps : List Nat} {r : List (Nat × List Nat)} : chks cf ops ts h1 ((x, ps) :: r) = (chkA cf ops[x]? ts[x]? ts h1 ps && chks cf ops ts h1 r) := by
  simp only [chks, chkA]
  rcases ops[x]? with _ | d <;> rcases ts[x]? with _ | t <;> rfl
theorem chkA_nil {d : DOp} {t : TR} : chkA cf (some d) (some t) ts h1 [] = true := nr rfl
theorem chkA_cons {d : DOp} {t : TR} {p : Nat} {ps : List Nat} : chkA cf (some d) (some t) ts h1 (p :: ps) = (chk1 cf d t (hAt ts h1 p) && chkA cf (some d) (some t) ts h1 ps) := nr rfl
theorem chk1_no {d : DOp} {v : Value} {h0 : H} : chk1 cf d ⟨e, h0, false, v⟩ h = true := nr rfl
theorem chk1_yes {i : Nat} {dst : Option Nat} {g : Option (Nat × Bool)} {ac : AAct} {sl : List Nat} {v : Value} {h0 : H} : chk1 cf ⟨i, ⟨dst, g, ac⟩, sl⟩ ⟨e, h0, true, v⟩ h = chkV (evAct cf ac e h) v := nr rfl
theorem chkV_some {v w : Value} : chkV (some (v, h)) w = sameV v w := nr rfl
theorem hAt_eq {k : Nat} : hAt ts h1 k = hOf ts[k]? h1 := nr rfl
theorem hOf_some {h0 : H} {b : Bool} {v : Value} : hOf (some ⟨e, h0, b, v⟩) h1 = h0 := nr rfl
theorem hOf_none : hOf none h1 = h1 := nr rfl
end

/-- How long a slice is. -/
def lenV : Value → Option Value
  | .slice none 0 0 => some (.int .i64 0)
  | .slice (some _) n _ => some (.int .i64 n)
  | _ => none
@[simp] theorem lenV_nil : lenV (.slice none 0 0) = some (.int .i64 0) := nr rfl
@[simp] theorem lenV_some {a : Addr} {n c : Nat} : lenV (.slice (some a) n c) = some (.int .i64 n) := nr rfl
@[simp ↓ high] theorem evOp_lenSlice {x : Operand} {s : Env} {h : H} : evOp (.lenSlice x) s h = (lenV (aeval s x)).map fun v => (v, h) := by
  show (match aeval s x with
    | .slice none 0 0 => some (Value.int .i64 0, h)
    | .slice (some _) n _ => some (.int .i64 n, h)
    | _ => none) = _
  unfold lenV
  split <;> rfl

theorem fn_id {α : Sort _} {β : Sort _} (f : α → β) {a b : α} (h : a = b) : f a = f b := by rw [h]

end Go.Ev
