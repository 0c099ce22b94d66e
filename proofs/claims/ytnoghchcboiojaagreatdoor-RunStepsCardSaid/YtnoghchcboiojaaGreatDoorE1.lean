/- Texts of the proofs over heraldlaw18, put together by a program (merge18c.py): Sx4 Sx3 Sx6 Sx7. -/
import Derived.Test.YtnoghchcboiojaaGreatDoorRows
import Derived.ProofKit
import Derived.KernelRfl
import Derived.Test.YtnoghchcboiojaaGreatDoorE0
import Derived.Test.YtnoghchcboiojaaGreatDoorD12
import Derived.Test.YtnoghchcboiojaaGreatDoorC3
set_option linter.unusedVariables false
set_option linter.unusedSimpArgs false
section
set_option maxRecDepth 100000
namespace Go.Proofs.YtnoghchcboiojaaGreatDoor
open Go
def mapRow (P : Program) (t : TypeId) : Bool := match P.underlying t with
 | some (.map _ e) => decide (e < P.types.size)
 | _ => true
theorem lo_0 : (List.range' 0 60).all (rowFine Tryz.prog) = true := by kernel_rfl
theorem lo_60 : (List.range' 60 60).all (rowFine Tryz.prog) = true := by kernel_rfl
theorem lo_120 : (List.range' 120 60).all (rowFine Tryz.prog) = true := by kernel_rfl
theorem lo_180 : (List.range' 180 60).all (rowFine Tryz.prog) = true := by kernel_rfl
theorem lo_240 : (List.range' 240 60).all (rowFine Tryz.prog) = true := by kernel_rfl
theorem lo_300 : (List.range' 300 60).all (rowFine Tryz.prog) = true := by kernel_rfl
theorem lo_360 : (List.range' 360 60).all (rowFine Tryz.prog) = true := by kernel_rfl
theorem lo_420 : (List.range' 420 60).all (rowFine Tryz.prog) = true := by kernel_rfl
theorem lo_480 : (List.range' 480 60).all (rowFine Tryz.prog) = true := by kernel_rfl
theorem lo_540 : (List.range' 540 60).all (rowFine Tryz.prog) = true := by kernel_rfl
theorem lo_600 : (List.range' 600 60).all (rowFine Tryz.prog) = true := by kernel_rfl
theorem lo_660 : (List.range' 660 60).all (rowFine Tryz.prog) = true := by kernel_rfl
theorem lo_720 : (List.range' 720 60).all (rowFine Tryz.prog) = true := by kernel_rfl
theorem lo_780 : (List.range' 780 60).all (rowFine Tryz.prog) = true := by kernel_rfl
theorem lo_840 : (List.range' 840 58).all (rowFine Tryz.prog) = true := by kernel_rfl
theorem lo_all (t : Nat) (ht : t < 898) : rowFine Tryz.prog t = true := by
 have h : ∀ a k,(List.range' a k).all (rowFine Tryz.prog) = true → a ≤ t → t < a + k → rowFine Tryz.prog t = true := fun a k h h1 h2 => List.all_eq_true.1 h t (List.mem_range'_1.2 ⟨h1,h2⟩)
 by_cases h0 : t < 60
 ·exact h 0 60 lo_0 (by omega) (by omega)
 by_cases h60 : t < 120
 ·exact h 60 60 lo_60 (by omega) (by omega)
 by_cases h120 : t < 180
 ·exact h 120 60 lo_120 (by omega) (by omega)
 by_cases h180 : t < 240
 ·exact h 180 60 lo_180 (by omega) (by omega)
 by_cases h240 : t < 300
 ·exact h 240 60 lo_240 (by omega) (by omega)
 by_cases h300 : t < 360
 ·exact h 300 60 lo_300 (by omega) (by omega)
 by_cases h360 : t < 420
 ·exact h 360 60 lo_360 (by omega) (by omega)
 by_cases h420 : t < 480
 ·exact h 420 60 lo_420 (by omega) (by omega)
 by_cases h480 : t < 540
 ·exact h 480 60 lo_480 (by omega) (by omega)
 by_cases h540 : t < 600
 ·exact h 540 60 lo_540 (by omega) (by omega)
 by_cases h600 : t < 660
 ·exact h 600 60 lo_600 (by omega) (by omega)
 by_cases h660 : t < 720
 ·exact h 660 60 lo_660 (by omega) (by omega)
 by_cases h720 : t < 780
 ·exact h 720 60 lo_720 (by omega) (by omega)
 by_cases h780 : t < 840
 ·exact h 780 60 lo_780 (by omega) (by omega)
 exact h 840 58 lo_840 (by omega) (by omega)
theorem mr_0 : (List.range' 0 60).all (mapRow Tryz.prog) = true := by kernel_rfl
theorem mr_60 : (List.range' 60 60).all (mapRow Tryz.prog) = true := by kernel_rfl
theorem mr_120 : (List.range' 120 60).all (mapRow Tryz.prog) = true := by kernel_rfl
theorem mr_180 : (List.range' 180 60).all (mapRow Tryz.prog) = true := by kernel_rfl
theorem mr_240 : (List.range' 240 60).all (mapRow Tryz.prog) = true := by kernel_rfl
theorem mr_300 : (List.range' 300 60).all (mapRow Tryz.prog) = true := by kernel_rfl
theorem mr_360 : (List.range' 360 60).all (mapRow Tryz.prog) = true := by kernel_rfl
theorem mr_420 : (List.range' 420 60).all (mapRow Tryz.prog) = true := by kernel_rfl
theorem mr_480 : (List.range' 480 60).all (mapRow Tryz.prog) = true := by kernel_rfl
theorem mr_540 : (List.range' 540 60).all (mapRow Tryz.prog) = true := by kernel_rfl
theorem mr_600 : (List.range' 600 60).all (mapRow Tryz.prog) = true := by kernel_rfl
theorem mr_660 : (List.range' 660 60).all (mapRow Tryz.prog) = true := by kernel_rfl
theorem mr_720 : (List.range' 720 60).all (mapRow Tryz.prog) = true := by kernel_rfl
theorem mr_780 : (List.range' 780 60).all (mapRow Tryz.prog) = true := by kernel_rfl
theorem mr_840 : (List.range' 840 58).all (mapRow Tryz.prog) = true := by kernel_rfl
theorem mr_all (t : Nat) (ht : t < 898) : mapRow Tryz.prog t = true := by
 have h : ∀ a k,(List.range' a k).all (mapRow Tryz.prog) = true → a ≤ t → t < a + k → mapRow Tryz.prog t = true := fun a k h h1 h2 => List.all_eq_true.1 h t (List.mem_range'_1.2 ⟨h1,h2⟩)
 by_cases h0 : t < 60
 ·exact h 0 60 mr_0 (by omega) (by omega)
 by_cases h60 : t < 120
 ·exact h 60 60 mr_60 (by omega) (by omega)
 by_cases h120 : t < 180
 ·exact h 120 60 mr_120 (by omega) (by omega)
 by_cases h180 : t < 240
 ·exact h 180 60 mr_180 (by omega) (by omega)
 by_cases h240 : t < 300
 ·exact h 240 60 mr_240 (by omega) (by omega)
 by_cases h300 : t < 360
 ·exact h 300 60 mr_300 (by omega) (by omega)
 by_cases h360 : t < 420
 ·exact h 360 60 mr_360 (by omega) (by omega)
 by_cases h420 : t < 480
 ·exact h 420 60 mr_420 (by omega) (by omega)
 by_cases h480 : t < 540
 ·exact h 480 60 mr_480 (by omega) (by omega)
 by_cases h540 : t < 600
 ·exact h 540 60 mr_540 (by omega) (by omega)
 by_cases h600 : t < 660
 ·exact h 600 60 mr_600 (by omega) (by omega)
 by_cases h660 : t < 720
 ·exact h 660 60 mr_660 (by omega) (by omega)
 by_cases h720 : t < 780
 ·exact h 720 60 mr_720 (by omega) (by omega)
 by_cases h780 : t < 840
 ·exact h 780 60 mr_780 (by omega) (by omega)
 exact h 840 58 mr_840 (by omega) (by omega)
theorem types_size : Tryz.prog.types.size = 898 := by kernel_rfl
theorem globals_lt : Tryz.prog.globals.all (fun g => decide (g.type < Tryz.prog.types.size)) = true := by kernel_rfl
theorem params_lt : Tryz.prog.funcs.all (fun f => f.params.all fun t => decide (t < Tryz.prog.types.size)) = true := by kernel_rfl
theorem seat_laidOut : laidOutB Tryz.prog = true := by
 unfold laidOutB
 rw [globals_lt,params_lt,types_size,Bool.and_true,Bool.and_true]
 exact List.all_eq_true.2 fun t ht => lo_all t (List.mem_range.1 ht)
theorem seat_mapsRowed : mapsRowed Tryz.prog = true := by
 unfold mapsRowed
 have h : (List.range Tryz.prog.types.size).all (mapRow Tryz.prog) = true := by
  rw [types_size]
  exact List.all_eq_true.2 fun t ht => mr_all t (List.mem_range.1 ht)
 exact h
end Go.Proofs.YtnoghchcboiojaaGreatDoor
end
section
set_option maxRecDepth 100000
namespace Go.Proofs.YtnoghchcboiojaaGreatDoor
open Go.Ev
theorem seat_own : ownKnob Tryz.prog.godebug = none := by kernel_rfl
theorem size_of_shape {W : World} (h : W.ShapedOpen Tryz.prog) : 14 ≤ W.heap.size := by
 have h0 : (((begin Tryz.prog (fun _ _ => 0) default).world.heap[13]?).bind Obj.row?).isSome = true := by kernel_rfl
 obtain ⟨⟨zero,t⟩,hz⟩ := Option.isSome_iff_exists.1 h0
 obtain ⟨cs,hc,_⟩ := h.1 13 zero t (by rw [show Tryz.prog.globals.size = 14 from by kernel_rfl];decide) hz
 have := (Array.getElem?_eq_some_iff.1 hc).1
 omega
section
variable {HT : Type} {enc : TypeId × Value → HT} {P : Program}
theorem law_calls_os {f : FuncId} {cf : CF} (hcf : CallOk P cf)  {fn : Func} {s : ChangeSpec} {apart fresh handsOn : Bool} {W : World} {args : Array Value} {ds gs : List (DataW HT)} {before : List MemPlace} {t : TypeId} (hg : Vars W)
  (hW : DataW.Whole enc P fn.params.toList s.vars apart W args.toList ds gs before) (hl : laidOutB P = true) (hvars : s.vars = [])
  (hs : s.fn HT ds = { results := [.lit (.bool true)],args := ds }) (hr : fn.resultTypes = #[t]) (ht : P.underlying t = some .bool)
  (hp : fn.params.toList.all (fun t => P.readableRec t && decide (t < P.types.size)) = true)
  {h' : H} (he : cf f (args.toList.map (absA W.heap.size)) (absH W) = some (.bool true,h')) :
  Calls P f args W fun e W' => ∃ v,e = .returned v ∧ s.post enc P fn apart fresh handsOn false W args v W' ∧ W'.os = W.os := by
 obtain ⟨_,h2⟩ := hcf _ _ _ _ _ he
 refine (h2 (ren0 W.heap.size) W args.toList (absH_rel W hg) (absA_rels _ _)).mono ?_
 rintro e W' (⟨_,v',ρ',rfl,hv,hr',hx⟩ | ⟨x,x',ρ',hp,_⟩)
 case inr => cases hp
 have := hv.bool_inv
 subst this
 exact ⟨_,rfl,post_law hW hl hvars hs hr ht hp (fun b hb => old_kept hx hb) hx.io,hx.io.1⟩
end
end Go.Proofs.YtnoghchcboiojaaGreatDoor
end
section
set_option maxRecDepth 100000
namespace Go.Proofs.YtnoghchcboiojaaGreatDoor
open Go Go.Ev
def tab_0 : List Row5 := [([], some "main.main", false, [], none),
 ([], some "gosem.cut", false, [], none),
 ([1],none,false,[],none),
 ([9,10,11,12],none,false,[],none),
 ([13,13,14,15,11,16],none,false,[],none),
 ([11,9,15,14,9,14,12],none,false,[],none),
 ([11,15,13,14,9,12],none,false,[],none),
 ([11,13,14,13,15],none,false,[],none),
 ([11,10,10,9,9,12,9,12],none,false,[],none),
 ([17,18,19,20,21,22],none,true,[],none),
 ([23,24,25],none,false,[],none),
 ([9,14,26],none,false,[],none),
 ([27],none,false,[],none),
 ([],none,false,[],none),
 ([28,29,30,31,29,29,32,29,33,34],none,true,[],none),
 ([35,36],none,false,[],none),
 ([12],none,false,[],none),
 ([],none,false,[],none),
 ([37],none,false,[],none),
 ([38],none,false,[],none),
 ([39,22,30,39,22,40,22],none,false,[],none),
 ([42,40,41,40,40,40,43,44,45,22],none,false,[],none),
 ([],none,false,[],none),
 ([46,46,47,48,49,47,50],none,false,[],none),
 ([51,51],none,false,[],none),
 ([52,51,53,51,54],none,false,[0],none),
 ([9,55,55,56,55,32,29,57,55,29,29,55,58,29,59,34],none,false,[],none),
 ([],none,false,[],none),
 ([],none,false,[],none),
 ([60],none,false,[],none),
 ([],none,false,[],none),
 ([22,55],none,false,[],none),
 ([42,61,31,31,31,63,62,22,64,22,65],none,false,[1],none),
 ([],none,false,[],none),
 ([],none,false,[],none),
 ([55],none,false,[],none),
 ([52,35,66,67],none,false,[0],none),
 ([68,69,70],none,false,[],none),
 ([71,72,71,73,22,73,74,72,75,76,22],none,false,[],none),
 ([],none,false,[],none),
 ([22],none,false,[],none),
 ([22],none,false,[],none),
 ([],none,false,[],none),
 ([40,77,40,77],none,false,[],none),
 ([40,22],none,false,[1],none),
 ([78,40,22,78],none,false,[],none),
 ([],none,false,[],none),
 ([],none,false,[],none),
 ([46,47],none,false,[],none),
 ([79,79,79,79],none,false,[],none)]
theorem tk_0 : (List.range' 0 50).map (rowOf Tryz.prog) = tab_0 := by kernel_rfl
def tab_1 : List Row5 := [([47,46],none,false,[],none),
 ([],none,false,[],none),
 ([],none,false,[],none),
 ([],none,false,[],none),
 ([80],none,false,[],none),
 ([81],none,false,[],none),
 ([82,82,82,82,82,82,83,84,85,86],none,false,[],none),
 ([87,88],none,true,[2],none),
 ([89],none,true,[],none),
 ([90,55,29,55,55,91,29,92,55,29,55,55,93,29,29],none,false,[],none),
 ([94],none,false,[],none),
 ([22],none,false,[],none),
 ([72,75,95],none,false,[],none),
 ([22],none,false,[],none),
 ([22,96,65],none,false,[],none),
 ([97,29,29,29,34],none,false,[],none),
 ([98,48,98],none,false,[],none),
 ([99],none,false,[],none),
 ([100,101],none,false,[],none),
 ([100,102,70],none,false,[],none),
 ([103],none,false,[],none),
 ([],none,false,[],none),
 ([],none,true,[],none),
 ([],none,false,[],none),
 ([72,73,71,22,104,22],none,false,[],none),
 ([71,73,105],none,false,[],none),
 ([22,106,22],none,false,[],none),
 ([22],none,false,[],none),
 ([107,40,41,43,43,40,39,39],none,false,[],none),
 ([47],none,false,[],none),
 ([52,51,53,53,51,51],none,false,[3],none),
 ([108],none,false,[],none),
 ([],none,false,[],none),
 ([],none,false,[],none),
 ([],none,false,[],none),
 ([],none,false,[],none),
 ([110,109,111],none,false,[],none),
 ([112],none,false,[],none),
 ([113,114,115,116,117,118,119,120,121,122,123,123,123,123,123,124],none,false,[],none),
 ([125,126,127,128,129,131,133,134,135,136],none,false,[],none),
 ([138,139],none,false,[],none),
 ([55,55,64],none,false,[],none),
 ([140],none,false,[],none),
 ([62,95,55],none,false,[],none),
 ([], some "internal/abi.NoEscape", false, [], none),
 ([141,141,141,29,29,141,141,34],none,false,[],none),
 ([107,61,63,62,63,95,31,22,22,65],none,false,[],none),
 ([60,142],none,false,[],none),
 ([],none,false,[],none),
 ([52,66,98,35],none,false,[3],none)]
theorem tk_1 : (List.range' 50 50).map (rowOf Tryz.prog) = tab_1 := by kernel_rfl
def tab_2 : List Row5 := [([],none,false,[],none),
 ([143],none,false,[],none),
 ([], some "internal/bytealg.CountString", false, [], none),
 ([144,145,144,146,145,147],none,false,[4,4,4],none),
 ([148,149],none,false,[],none),
 ([144],none,false,[],none),
 ([22,150,150,150,150,22],none,false,[],none),
 ([],none,false,[],none),
 ([151,152,153,154],none,false,[],none),
 ([155,156,157,158,159,160,161,162,163,164,165,166,167],none,false,[],none),
 ([],none,false,[],none),
 ([168,169],none,false,[],none),
 ([],none,false,[],none),
 ([170,171],none,false,[],none),
 ([170,172],none,false,[],none),
 ([170,173],none,false,[],none),
 ([82,170,174,176,175],none,false,[],none),
 ([177,178,179,180,111,181],none,false,[],none),
 ([181],none,false,[],none),
 ([170,174,179,172,182,176],none,false,[],none),
 ([181,86],none,false,[],none),
 ([183],none,false,[],none),
 ([181,184,111],none,false,[],none),
 ([185,186,187,188,189,178],none,false,[],none),
 ([82,190,117,191,117,192,171],none,false,[],none),
 ([55],none,false,[],none),
 ([55],none,false,[],none),
 ([55],none,false,[],none),
 ([55],none,false,[],none),
 ([130,64],none,false,[],none),
 ([55,55],none,false,[],none),
 ([130,55,132],none,false,[],none),
 ([55,55,62,95,55],none,false,[],none),
 ([55,62],none,false,[1],none),
 ([55],none,false,[],none),
 ([55,55,55,55,93],none,false,[],none),
 ([137],none,false,[],none),
 ([55,55,93,55,62,95,55,55],none,false,[],none),
 ([],none,false,[],none),
 ([],none,false,[],none),
 ([193],none,false,[],none),
 ([60],none,false,[],none),
 ([194],none,false,[],none),
 ([],none,false,[5,6],none),
 ([195],none,false,[],none),
 ([], some "internal/bytealg.IndexString", false, [], some "internal/bytealg.MaxLen"),
 ([],none,false,[],none),
 ([196],none,false,[],none),
 ([197],none,false,[],none),
 ([198,199,200,201],none,false,[],none)]
theorem tk_2 : (List.range' 100 50).map (rowOf Tryz.prog) = tab_2 := by kernel_rfl
def tab_3 : List Row5 := [([73],none,false,[],none),
 ([],none,false,[],none),
 ([203,202,204],none,false,[7],none),
 ([],none,false,[],none),
 ([205,206],none,false,[],none),
 ([207,207,207,207,207,207,207],none,false,[],none),
 ([208,209,210],none,true,[],none),
 ([211],none,false,[],none),
 ([212,213],none,false,[],none),
 ([214],none,false,[],none),
 ([],none,false,[],none),
 ([215,216,217,218,219,220],none,false,[],none),
 ([221],none,false,[],none),
 ([222,210],none,false,[],none),
 ([],none,false,[],none),
 ([],none,false,[],none),
 ([223,224,225,139,226,227,228],none,false,[],none),
 ([229,230,231,166,158,162,232,233,234,235,236,232,237,238,239,227],none,false,[],none),
 ([240],none,false,[],none),
 ([241],none,false,[],none),
 ([192,176],none,false,[],none),
 ([172,242,179,182,111,243,178],none,false,[],none),
 ([174],none,false,[],none),
 ([174,240],none,false,[],none),
 ([],none,false,[],none),
 ([174],none,false,[],none),
 ([],none,false,[],none),
 ([244,244,245],none,false,[],none),
 ([168],none,false,[],none),
 ([],none,false,[],none),
 ([241,165,246,167,247,248,238,239,249,250],none,false,[],none),
 ([179],none,false,[],none),
 ([241,251,165,252,167,207,253,207,254,250],none,false,[],none),
 ([255,256,257,258,258],none,false,[],none),
 ([241,165,233,235,236,229],none,false,[],none),
 ([259,260,139,139,261,262,244],none,false,[],none),
 ([263,260,264,261,265],none,false,[],none),
 ([260,266,264,261,265],none,false,[],none),
 ([260,267,261,245],none,false,[],none),
 ([260,267,261,245],none,false,[],none),
 ([269,268],none,false,[],none),
 ([270,268],none,false,[],none),
 ([271],none,false,[],none),
 ([272],none,false,[],none),
 ([], some "internal/bytealg.MakeNoZero", false, [], none),
 ([], some "internal/bytealg.IndexByteString", false, [], none),
 ([],none,false,[],none),
 ([273],none,false,[],none),
 ([274],none,false,[8],none),
 ([274],none,false,[9],none)]
theorem tk_3 : (List.range' 150 50).map (rowOf Tryz.prog) = tab_3 := by kernel_rfl
def tab_4 : List Row5 := [([274,55,275],none,false,[],none),
 ([274,55,275],none,false,[],none),
 ([],none,false,[],none),
 ([],none,false,[],none),
 ([],none,false,[],none),
 ([],none,false,[],none),
 ([276,277],none,false,[],none),
 ([],none,false,[],none),
 ([278],none,false,[],none),
 ([],none,false,[],none),
 ([281,282,282,283,282,283,282],none,false,[],none),
 ([],none,false,[],none),
 ([284,285,286,287,236],none,false,[],none),
 ([],none,false,[],none),
 ([],none,true,[],none),
 ([138,163],none,false,[],none),
 ([288,159],none,false,[],none),
 ([289,289],none,false,[],none),
 ([290,289,291,139,291],none,false,[],none),
 ([292],none,false,[],none),
 ([290,293,294,296,295,297,298],none,false,[],none),
 ([],none,false,[],none),
 ([299,300,300,301,302],none,false,[],none),
 ([],none,false,[],none),
 ([303,211,304],none,true,[],none),
 ([305,255,256,213,306,307,308,309,312],none,true,[],none),
 ([305,255,256,271,313],none,false,[],none),
 ([314],none,false,[],none),
 ([305,255,256,315],none,false,[],none),
 ([210,164],none,false,[],none),
 ([],none,false,[],none),
 ([305,255,256,221],none,false,[],none),
 ([316],none,false,[],none),
 ([],none,false,[],none),
 ([],none,false,[],none),
 ([317,318,317,319],none,false,[],none),
 ([320,321,322,323,323,322,324,322,325],none,false,[],none),
 ([326,326,326],none,false,[],none),
 ([327,248],none,false,[],none),
 ([],none,false,[],none),
 ([],none,false,[],none),
 ([],none,false,[],none),
 ([251,328,316,168],none,false,[],none),
 ([329,251,330],none,true,[],none),
 ([329,316],none,false,[],none),
 ([331,332,262,333],none,true,[],none),
 ([298,293,294,293,296,295,334],none,false,[],none),
 ([],none,false,[],none),
 ([271],none,false,[],none),
 ([335,167],none,false,[],none)]
theorem tk_4 : (List.range' 200 50).map (rowOf Tryz.prog) = tab_4 := by kernel_rfl
def tab_5 : List Row5 := [([226,336,337,326],none,false,[],none),
 ([338,338,339,340],none,false,[],none),
 ([341,220],none,false,[],none),
 ([159,160,158,342,167],none,false,[],none),
 ([343,247,234,232,238,239,227,326],none,true,[],none),
 ([344],none,false,[],none),
 ([345],none,false,[],none),
 ([],none,false,[],none),
 ([],none,false,[],none),
 ([],none,false,[],none),
 ([87],none,false,[],none),
 ([],none,false,[],none),
 ([],none,false,[],none),
 ([346,18,347],none,false,[],none),
 ([],none,false,[],none),
 ([333,244],none,false,[],none),
 ([87],none,false,[],none),
 ([],none,false,[],none),
 ([348,271],none,false,[],none),
 ([349],none,false,[],none),
 ([350],none,false,[],none),
 ([352,351],none,false,[],none),
 ([],none,false,[],none),
 ([353,353,353,353,353,353,354],none,false,[],none),
 ([],none,false,[],none),
 ([],none,false,[],none),
 ([],none,false,[10],none),
 ([],none,false,[11],none),
 ([280,279],none,false,[],none),
 ([355],none,true,[],none),
 ([],none,true,[],none),
 ([301,356,299,356,357,356,356,357,358,300,300,356,300],none,false,[],none),
 ([],none,false,[],none),
 ([359],none,false,[],none),
 ([360],none,false,[],none),
 ([284,361,361,284,284,284,284,284],none,false,[],none),
 ([284,284,284,362],none,false,[],none),
 ([363,364,365],none,false,[],none),
 ([],none,false,[],none),
 ([],none,false,[],none),
 ([318,291],none,false,[],none),
 ([],none,false,[],none),
 ([],none,false,[],none),
 ([],none,false,[],none),
 ([296,290,295],none,false,[],none),
 ([366],none,false,[],none),
 ([],none,false,[],none),
 ([219,341],none,false,[],none),
 ([296],none,false,[],none),
 ([],none,false,[],none)]
theorem tk_5 : (List.range' 250 50).map (rowOf Tryz.prog) = tab_5 := by kernel_rfl
def tab_6 : List Row5 := [([],none,false,[],none),
 ([367,368],none,false,[],none),
 ([],none,false,[],none),
 ([304,369,369,369],none,false,[],none),
 ([370,371,372],none,false,[],none),
 ([],none,false,[],none),
 ([],none,false,[],none),
 ([],none,false,[],none),
 ([373, 374, 375, 376, 377, 378, 379, 378, 380, 378, 381, 382, 383, 384, 385], some "(*sync.WaitGroup).Add", false, [],   none),
 ([310,311],none,false,[],none),
 ([308], some "(*sync.WaitGroup).Done", false, [], none),
 ([386,387,213,389,388],none,false,[],none),
 ([374, 382, 375, 390, 391, 392, 384, 392, 393, 376, 375, 391, 374, 394, 382, 375, 390], some "(*sync.WaitGroup).Wait",   false, [], none),
 ([395],none,true,[],none),
 ([396],none,false,[],none),
 ([397,398],none,false,[],none),
 ([338,338,399,400],none,false,[],none),
 ([],none,false,[],none),
 ([],none,false,[],none),
 ([318,290,291,401],none,false,[],none),
 ([211],none,false,[],none),
 ([402,403],none,false,[],none),
 ([404],none,false,[],none),
 ([358],none,false,[],none),
 ([],none,false,[],none),
 ([322,323,323,322,323],none,false,[],none),
 ([234,232],none,false,[],none),
 ([],none,false,[],none),
 ([405],none,true,[],none),
 ([],none,false,[],none),
 ([406,407,408,409,410,411,412,413,414],none,false,[],none),
 ([244],none,false,[],none),
 ([264],none,false,[],none),
 ([264],none,false,[],none),
 ([296,415,416,295],none,false,[],none),
 ([247,290,417,218,341,297,334],none,false,[],none),
 ([305,255,256,418],none,false,[],none),
 ([305,255,256,397],none,false,[],none),
 ([],none,false,[],none),
 ([419,420,421],none,false,[],none),
 ([423,422,428],none,false,[],none),
 ([],none,false,[],none),
 ([366,293,429,430,431,432,433,293],none,true,[],none),
 ([434,435,436,437,438,439,440,441],none,false,[],none),
 ([374, 442, 375, 390, 443], some "(*internal/sync.Mutex).Lock", false, [], none),
 ([373, 374, 444, 445, 375], some "(*internal/sync.Mutex).Unlock", false, [], none),
 ([446],none,false,[],none),
 ([],none,false,[12],none),
 ([447],none,false,[],none),
 ([],none,true,[],none)]
theorem tk_6 : (List.range' 300 50).map (rowOf Tryz.prog) = tab_6 := by kernel_rfl
def tab_7 : List Row5 := [([],none,true,[],none),
 ([448,449,450,451,452,453,454,455,456,351,351],none,false,[],none),
 ([457,203],none,false,[],none),
 ([],none,false,[],none),
 ([353,353,353,353,353,353],none,false,[],none),
 ([458,459,459,283,459,459,283,460,210],none,true,[],none),
 ([404],none,false,[],none),
 ([],none,false,[],none),
 ([404],none,false,[],none),
 ([],none,false,[],none),
 ([],none,false,[],none),
 ([461],none,false,[],none),
 ([284,284,284,284,361,361,284,284,284,284,284,361,462],none,false,[],none),
 ([263,463],none,false,[],none),
 ([464,464],none,false,[],none),
 ([],none,false,[],none),
 ([293],none,false,[],none),
 ([465,466],none,false,[],none),
 ([467,468,469],none,false,[],none),
 ([],none,false,[],none),
 ([396,470,396],none,false,[],none),
 ([471],none,false,[],none),
 ([471],none,false,[],none),
 ([], some "internal/race.ReleaseMerge", false, [], none),
 ([], some "internal/race.Disable", false, [], none),
 ([], some "internal/race.Enable", false, [], none),
 ([], some "internal/synctest.IsInBubble", false, [], none),
 ([], some "internal/synctest.Associate[sync.WaitGroup]", false, [], none),
 ([], some "sync.fatal", false, [], none),
 ([472],none,false,[],none),
 ([473],none,false,[],none),
 ([], some "internal/race.Read", false, [], none),
 ([474],none,false,[],none),
 ([475],none,false,[],none),
 ([], some "internal/synctest.Disassociate[sync.WaitGroup]", false, [], none),
 ([], some "sync.runtime_Semrelease", false, [], none),
 ([263,476,477,478,479],none,false,[],none),
 ([395,480,481,482,484,483],none,true,[],none),
 ([395,480,485,486,483],none,true,[],none),
 ([397,487],none,false,[],none),
 ([], some "internal/race.Acquire", false, [], none),
 ([], some "internal/synctest.IsAssociated[sync.WaitGroup]", false, [], none),
 ([488],none,false,[],none),
 ([], some "internal/race.Write", false, [], none),
 ([], some "sync.runtime_SemacquireWaitGroup", false, [], none),
 ([255,256],none,false,[],none),
 ([489,490],none,false,[],none),
 ([491],none,false,[],none),
 ([397,492,263,493,494],none,false,[],none),
 ([428,467,425,495],none,false,[],none)]
theorem tk_7 : (List.range' 350 50).map (rowOf Tryz.prog) = tab_7 := by kernel_rfl
def tab_8 : List Row5 := [([496,359,496,359,496],none,false,[],none),
 ([139],none,false,[],none),
 ([],none,false,[],none),
 ([497,498],none,false,[],none),
 ([],none,false,[],none),
 ([499,501],none,false,[],none),
 ([503],none,false,[],none),
 ([503],none,false,[],none),
 ([261,504,261,245],none,false,[],none),
 ([260,267,261],none,false,[],none),
 ([261],none,false,[],none),
 ([505,504,245,245],none,false,[],none),
 ([505,266,506,264,261,507,193,264,504,261,245],none,false,[],none),
 ([505,266,506,504,245],none,false,[],none),
 ([505,508,509,504,245,510,244],none,false,[],none),
 ([318,319],none,false,[],none),
 ([318,290,511],none,false,[],none),
 ([139],none,false,[],none),
 ([395,485,484,486],none,true,[],none),
 ([512,512,359],none,false,[],none),
 ([512,359],none,false,[],none),
 ([],none,false,[],none),
 ([513],none,true,[],none),
 ([424,425,426,427],none,false,[],none),
 ([360],none,false,[],none),
 ([514,515],none,false,[13,13],none),
 ([424],none,true,[],none),
 ([],none,false,[],none),
 ([425,516,517,518],none,true,[],none),
 ([294],none,false,[],none),
 ([290,519,216,341,297,218,417,341,290,297,520],none,false,[],none),
 ([290,217,341,520],none,false,[],none),
 ([318,290,521],none,false,[],none),
 ([415,521,366],none,false,[],none),
 ([238,239,227,326,249,238,239,227,326],none,false,[],none),
 ([238,239,522,139,249,314,326],none,false,[],none),
 ([238,239,249],none,false,[],none),
 ([523,227,524],none,false,[],none),
 ([227,525,524],none,false,[],none),
 ([227,526,524,527,326],none,false,[],none),
 ([227,528,524,326],none,false,[],none),
 ([227,523,529,524,523],none,false,[],none),
 ([], some "sync/atomic.CompareAndSwapInt32", false, [], none),
 ([530, 442, 531, 532, 442, 533, 534, 533, 532, 444, 375, 390], some "(*internal/sync.Mutex).lockSlow", false, [], none),
 ([], some "sync/atomic.AddInt32", false, [], none),
 ([535, 442, 536, 536], some "(*internal/sync.Mutex).unlockSlow", false, [], none),
 ([],none,false,[],none),
 ([],none,true,[],none),
 ([454],none,false,[],none),
 ([537,537],none,false,[],none)]
theorem tk_8 : (List.range' 400 50).map (rowOf Tryz.prog) = tab_8 := by kernel_rfl
def tab_9 : List Row5 := [([538,539],none,false,[],none),
 ([540,540,540,541],none,false,[],none),
 ([],none,false,[],none),
 ([454,454,454],none,false,[],none),
 ([542,542],none,false,[],none),
 ([454,454],none,false,[],none),
 ([454,454,454,454],none,false,[],none),
 ([],none,false,[],none),
 ([],none,false,[],none),
 ([],none,false,[],none),
 ([543,544,544,544,544,544,544,544,545,544],none,false,[],none),
 ([360],none,false,[],none),
 ([263,546],none,false,[],none),
 ([65],none,false,[],none),
 ([],none,false,[],none),
 ([547,548],none,false,[],none),
 ([549,550],none,false,[],none),
 ([404],none,false,[],none),
 ([467],none,true,[],none),
 ([467,551,551,467,467,467,467],none,false,[],none),
 ([552,402,553,554],none,true,[],none),
 ([555],none,false,[],none),
 ([], some "sync/atomic.OrUint64", false, [], none),
 ([], some "sync/atomic.AddUint64", false, [], none),
 ([], some "sync/atomic.LoadUint64", false, [], none),
 ([], some "sync/atomic.StoreUint64", false, [], none),
 ([263,263,556],none,false,[],none),
 ([],none,false,[],none),
 ([352,557],none,false,[],none),
 ([559,559,558],none,false,[],none),
 ([],none,false,[],none),
 ([560],none,false,[],none),
 ([],none,false,[],none),
 ([485],none,false,[],none),
 ([561],none,false,[],none),
 ([],none,false,[],none),
 ([272],none,false,[],none),
 ([320,562],none,false,[],none),
 ([], some "sync/atomic.CompareAndSwapUint64", false, [], none),
 ([],none,false,[],none),
 ([],none,false,[],none),
 ([],none,false,[],none),
 ([563,564],none,false,[],none),
 ([566,565,493],none,false,[],none),
 ([],none,false,[],none),
 ([467],none,true,[],none),
 ([],none,false,[],none),
 ([352,567],none,false,[],none),
 ([364],none,false,[],none),
 ([500],none,false,[],none)]
theorem tk_9 : (List.range' 450 50).map (rowOf Tryz.prog) = tab_9 := by kernel_rfl
def tab_10 : List Row5 := [([255,256,257],none,false,[],none),
 ([502],none,false,[],none),
 ([255,256,257],none,false,[],none),
 ([504,245],none,false,[],none),
 ([],none,false,[],none),
 ([],none,false,[],none),
 ([569,568],none,false,[],none),
 ([570],none,false,[],none),
 ([],none,false,[],none),
 ([572,571],none,false,[],none),
 ([508,573,574,575,261],none,false,[],none),
 ([576,401],none,false,[],none),
 ([],none,false,[],none),
 ([],none,false,[],none),
 ([577,578,577,579,577,580,577,581,577,582,577,583,577,584,585,586,585,589,585,590,585,592,594],  none,false,[],none),
 ([595,596],none,false,[],none),
 ([465],none,true,[],none),
 ([],none,true,[],none),
 ([],none,false,[],none),
 ([],none,false,[],none),
 ([296,290,295],none,false,[],none),
 ([297,298,290,334],none,false,[],none),
 ([314],none,false,[],none),
 ([226,112],none,false,[],none),
 ([527,326],none,false,[],none),
 ([305,597,597,597,255,256,213,598,599,315,600,601],none,false,[],none),
 ([305,255,256,213,602,603,487],none,false,[],none),
 ([305,255,256],none,false,[],none),
 ([305,255,256,602,398],none,false,[],none),
 ([305,255,256,602,604],none,false,[],none),
 ([], some "internal/sync.runtime_canSpin", false, [], none),
 ([], some "internal/sync.runtime_doSpin", false, [], none),
 ([], some "internal/sync.throw", false, [], none),
 ([], some "internal/sync.runtime_nanotime", false, [], none),
 ([], some "internal/sync.runtime_SemacquireMutex", false, [], none),
 ([], some "internal/sync.fatal", false, [], none),
 ([], some "internal/sync.runtime_Semrelease", false, [], none),
 ([454,454],none,false,[],none),
 ([352],none,false,[],none),
 ([],none,false,[],none),
 ([541],none,false,[],none),
 ([605,605,605],none,false,[],none),
 ([],none,false,[],none),
 ([606,422,367],none,false,[],none),
 ([360],none,false,[],none),
 ([461],none,false,[],none),
 ([263],none,false,[],none),
 ([608],none,false,[],none),
 ([],none,false,[],none),
 ([610,609],none,false,[],none)]
theorem tk_10 : (List.range' 500 50).map (rowOf Tryz.prog) = tab_10 := by kernel_rfl
def tab_11 : List Row5 := [([465,465],none,false,[],none),
 ([358],none,false,[],none),
 ([],none,false,[],none),
 ([611],none,false,[],none),
 ([612,613,263,614,615,616,617,618],none,false,[],none),
 ([402,321,619],none,false,[],none),
 ([],none,false,[],none),
 ([620,621,622,623,624,625,626,627,557,557],none,true,[],none),
 ([],none,false,[],none),
 ([542,542],none,false,[],none),
 ([],none,true,[],none),
 ([],none,false,[],none),
 ([628,629,630],none,false,[],none),
 ([],none,true,[],none),
 ([559],none,false,[],none),
 ([631],none,true,[],none),
 ([477],none,false,[],none),
 ([632,633,634,635,636,637,638,639,567,567],none,true,[],none),
 ([640],none,true,[],none),
 ([],none,false,[],none),
 ([628,629,628,641,642],none,false,[],none),
 ([643],none,false,[],none),
 ([],none,false,[],none),
 ([507,193,193],none,false,[],none),
 ([645,644],none,false,[],none),
 ([87,646],none,false,[],none),
 ([],none,false,[],none),
 ([],none,false,[],none),
 ([],none,false,[],none),
 ([],none,false,[],none),
 ([],none,false,[],none),
 ([],none,false,[],none),
 ([],none,false,[],none),
 ([],none,false,[],none),
 ([],none,false,[],none),
 ([647,648,649],none,false,[],none),
 ([587,588],none,false,[],none),
 ([650,571],none,false,[],none),
 ([465,651,652],none,false,[],none),
 ([588],none,false,[],none),
 ([591],none,false,[],none),
 ([465],none,false,[],none),
 ([587,591,593],none,false,[],none),
 ([653],none,false,[],none),
 ([654,655,656,658,660,661,663,664,666,667,668,669,672,673,674,676,678,679,681,684,687,688,690,    693,696,697],  none,false,[],none),
 ([],none,false,[],none),
 ([465,651,652,698,699],none,false,[],none),
 ([],none,false,[],none),
 ([221,600,700,571],none,false,[],none),
 ([],none,false,[],none)]
theorem tk_11 : (List.range' 550 50).map (rowOf Tryz.prog) = tab_11 := by kernel_rfl
def tab_12 : List Row5 := [([701,701,701,263,397,492,702,703],none,false,[],none),
 ([389,388,311],none,false,[],none),
 ([],none,false,[],none),
 ([597,263,397,704,643,398,600],none,false,[],none),
 ([395,485,485],none,true,[],none),
 ([454],none,false,[],none),
 ([607,427],none,false,[],none),
 ([424,424,424,424,424,670,671],none,false,[],none),
 ([],none,true,[],none),
 ([705],none,false,[],none),
 ([],none,true,[],none),
 ([], some "maps.clone", false, [], none),
 ([363,706,706,616],none,false,[],none),
 ([],none,false,[],none),
 ([616],none,false,[],none),
 ([617,619],none,false,[],none),
 ([],none,false,[],none),
 ([363,403],none,false,[],none),
 ([263,707],none,false,[],none),
 ([],none,false,[],none),
 ([],none,true,[],none),
 ([708,708],none,false,[],none),
 ([538,539],none,false,[],none),
 ([709,709,709,710],none,false,[],none),
 ([],none,false,[],none),
 ([],none,true,[],none),
 ([],none,true,[],none),
 ([],none,true,[],none),
 ([263],none,false,[],none),
 ([],none,false,[],none),
 ([402,263,321,476],none,false,[],none),
 ([],none,true,[],none),
 ([],none,true,[],none),
 ([711,711],none,false,[],none),
 ([538,539],none,false,[],none),
 ([712,712,712,713],none,false,[],none),
 ([],none,false,[],none),
 ([],none,true,[],none),
 ([],none,true,[],none),
 ([],none,true,[],none),
 ([],none,true,[],none),
 ([],none,false,[],none),
 ([714,364,363,715],none,false,[],none),
 ([],none,true,[],none),
 ([640],none,false,[],none),
 ([],none,false,[],none),
 ([570,272,628,476,716],none,false,[],none),
 ([717,718],none,false,[],none),
 ([719,720],none,false,[],none),
 ([],none,false,[],none)]
theorem tk_12 : (List.range' 600 50).map (rowOf Tryz.prog) = tab_12 := by kernel_rfl
def tab_13 : List Row5 := [([],none,true,[],none),
 ([263],none,false,[],none),
 ([],none,false,[],none),
 ([],none,false,[],none),
 ([721,722,723,724],none,false,[],none),
 ([725,726,727,728],none,false,[],none),
 ([657],none,false,[],none),
 ([467,467,467,729,730],none,false,[],none),
 ([659],none,false,[],none),
 ([424,424,424,731,732],none,false,[],none),
 ([],none,false,[],none),
 ([662],none,false,[],none),
 ([465,733,734],none,false,[],none),
 ([551],none,false,[],none),
 ([665],none,false,[],none),
 ([461],none,false,[],none),
 ([],none,false,[],none),
 ([],none,false,[],none),
 ([468,469],none,false,[],none),
 ([670,671],none,false,[],none),
 ([424],none,true,[],none),
 ([424,665,665,735,424,424],none,false,[],none),
 ([],none,false,[],none),
 ([466],none,false,[],none),
 ([675,368],none,false,[],none),
 ([467],none,true,[],none),
 ([677,607],none,false,[],none),
 ([424],none,true,[],none),
 ([],none,false,[],none),
 ([680,367],none,false,[],none),
 ([736,159],none,false,[],none),
 ([682,683],none,false,[],none),
 ([467],none,true,[],none),
 ([467,467,467,691,692,467,737,738],none,false,[],none),
 ([685,686],none,false,[],none),
 ([424],none,true,[],none),
 ([424,424,735,694,695,739,740],none,false,[],none),
 ([],none,false,[],none),
 ([689],none,false,[],none),
 ([741,742],none,false,[],none),
 ([691,692],none,false,[],none),
 ([467],none,true,[],none),
 ([467,467,551,467,743,744],none,false,[],none),
 ([694,695],none,false,[],none),
 ([424],none,true,[],none),
 ([424,424,665,424,745,746],none,false,[],none),
 ([],none,false,[],none),
 ([465],none,false,[],none),
 ([748,747],none,false,[],none),
 ([651,465],none,false,[],none)]
theorem tk_13 : (List.range' 650 50).map (rowOf Tryz.prog) = tab_13 := by kernel_rfl
def tab_14 : List Row5 := [([],none,false,[],none),
 ([],none,false,[],none),
 ([749,750],none,false,[],none),
 ([703],none,false,[],none),
 ([],none,false,[],none),
 ([],none,true,[],none),
 ([263,55,751],none,false,[],none),
 ([274],none,false,[],none),
 ([],none,true,[],none),
 ([710],none,false,[],none),
 ([752,752,752],none,false,[],none),
 ([],none,true,[],none),
 ([713],none,false,[],none),
 ([753,753,753],none,false,[],none),
 ([363,363],none,false,[],none),
 ([754,755],none,false,[],none),
 ([715,363,715,641,756,641,714,757],none,false,[],none),
 ([467],none,true,[],none),
 ([467,551,467,467],none,false,[],none),
 ([424],none,true,[],none),
 ([424,665,424,424],none,false,[],none),
 ([467],none,false,[],none),
 ([424],none,false,[],none),
 ([],none,false,[],none),
 ([465],none,false,[],none),
 ([467,467,467],none,false,[],none),
 ([424,424,424],none,false,[],none),
 ([],none,false,[],none),
 ([465],none,false,[],none),
 ([467],none,true,[],none),
 ([551,551,467,758,759],none,false,[],none),
 ([424],none,true,[],none),
 ([665,665,424,424,424,424,760,761],none,false,[],none),
 ([763,762],none,false,[],none),
 ([651,465,764,765],none,false,[],none),
 ([424],none,false,[],none),
 ([],none,true,[],none),
 ([467],none,true,[],none),
 ([467,551,551,467,766,767],none,false,[],none),
 ([424],none,true,[],none),
 ([424,665,665,424,768,769],none,false,[],none),
 ([771,770],none,false,[],none),
 ([465,772,773,774,775],none,false,[],none),
 ([467],none,true,[],none),
 ([551,551,467],none,false,[],none),
 ([424],none,true,[],none),
 ([665,665,424],none,false,[],none),
 ([776],none,false,[],none),
 ([],none,true,[],none),
 ([], some "slices.overlaps[herald/api.Watch]", false, [], none)]
theorem tk_14 : (List.range' 700 50).map (rowOf Tryz.prog) = tab_14 := by kernel_rfl
def tab_15 : List Row5 := [([777],none,false,[],none),
 ([778,346,346,346,346,346,97,29,33,33,33,34,29,34],none,false,[],none),
 ([],none,true,[],none),
 ([],none,true,[],none),
 ([],none,true,[],none),
 ([364],none,false,[],none),
 ([779,780],none,false,[],none),
 ([],none,false,[],none),
 ([467],none,true,[],none),
 ([551],none,false,[],none),
 ([424],none,true,[],none),
 ([665],none,false,[],none),
 ([781],none,false,[],none),
 ([],none,true,[],none),
 ([783,782],none,false,[],none),
 ([263],none,false,[],none),
 ([467],none,true,[],none),
 ([467],none,false,[],none),
 ([424],none,true,[],none),
 ([424],none,false,[],none),
 ([784],none,false,[],none),
 ([],none,true,[],none),
 ([786,785],none,false,[],none),
 ([465,596],none,false,[],none),
 ([787,481],none,false,[],none),
 ([652,651,465,653],none,false,[],none),
 ([],none,true,[],none),
 ([788,788,788],none,false,[],none),
 ([789,790],none,false,[],none),
 ([], some "slices.overlaps[herald/api.Seen]", false, [], none),
 ([791],none,false,[],none),
 ([],none,true,[],none),
 ([792],none,false,[],none),
 ([],none,true,[],none),
 ([],none,true,[],none),
 ([793],none,false,[],none),
 ([],none,true,[],none),
 ([],none,true,[],none),
 ([],none,false,[],none),
 ([],none,false,[],none),
 ([],none,false,[],none),
 ([794,794,794],none,false,[],none),
 ([],none,true,[],none),
 ([],none,true,[],none),
 ([],none,false,[],none),
 ([], some "(runtime.boundsError).Error", false, [], none),
 ([], some "(runtime.boundsError).RuntimeError", false, [], none),
 ([], some "(runtime.errorString).Error", false, [], none),
 ([], some "(runtime.errorString).RuntimeError", false, [], none),
 ([], some "(runtime.plainError).Error", false, [], none)]
theorem tk_15 : (List.range' 750 50).map (rowOf Tryz.prog) = tab_15 := by kernel_rfl
def tab_16 : List Row5 := [([], some "(runtime.plainError).RuntimeError", false, [], none),
 ([], some "(runtime.errorAddressString).Error", false, [], none),
 ([], some "(runtime.errorAddressString).RuntimeError", false, [], none),
 ([], some "(*runtime.TypeAssertionError).Error", false, [], none),
 ([], some "(*runtime.TypeAssertionError).RuntimeError", false, [], none),
 ([], some "(*runtime.PanicNilError).Error", false, [], none),
 ([], some "(*runtime.PanicNilError).RuntimeError", false, [], none),
 ([], some "(*internal/abi.Type).Align", false, [], none),
 ([], some "(internal/runtime/maps.unhashableTypeError).Error", false, [], none),
 ([], some "(internal/runtime/maps.unhashableTypeError).RuntimeError", false, [], none),
 ([], some "(*strings.Builder).Reset", false, [], none),
 ([], some "(*herald/view.Service).Settled", false, [], none),
 ([], some "(internal/strconv.Error).Error", false, [], none),
 ([], some "(*strconv.NumError).Error", false, [], none),
 ([], some "(*herald/trie.Trie).Size", false, [], none),
 ([302],none,false,[],none),
 ([],none,false,[],none),
 ([],none,false,[],none),
 ([],none,false,[],none),
 ([],none,false,[],none),
 ([],none,false,[],none),
 ([],none,false,[],none),
 ([],none,false,[],none),
 ([],none,false,[],none),
 ([138],none,false,[],none),
 ([302],none,false,[],none),
 ([],none,false,[],none),
 ([], some "(*herald/queue.Queue).Last", false, [], none),
 ([], some "(*errors.errorString).Error", false, [], none),
 ([], some "(*herald/trie.inner).size", false, [], none),
 ([], some "(internal/abi.Kind).String", false, [], none),
 ([],   some     "var's door: gosem.cut.vars holds initialisers alone; see the manifest's row cutvarsword (look 11, test files too)",   false, [], none),
 ([], some "var's door: herald/heraldref18.lines is laid by its own initialiser, plain data (look 11)", false, [], none),
 ([], some "var's door: herald/heraldref18.opLines is laid by its own initialiser, plain data (look 11)", false, [],   none),
 ([], some "var's door: herald/note.has is laid by its own initialiser, plain data (look 11)", false, [], none),
 ([], some "var's door: herald/place.named is laid by its own initialiser, plain data (look 11)", false, [], none),
 ([], some "var's door: herald/run.watches is laid by its own initialiser, plain data (look 11)", false, [], none),
 ([], some "var's door: herald/world.known is laid by its own initialiser, plain data by the wider look (data 2)", false,   [], none),
 ([], some "var's door: herald/world.known was passed by the deep look (deep 1)", false, [], none),
 ([], some "var's door: internal/strconv.uint64pow10 is laid by its own initialiser, plain data (look 11)", false, [],   none),
 ([], some "var's door: math/bits.deBruijn32tab is laid by its own initialiser, plain data (look 11)", false, [], none),
 ([], some "var's door: math/bits.deBruijn64tab is laid by its own initialiser, plain data (look 11)", false, [], none),
 ([], some "var's door: strconv.ErrRange is laid by its own call of errors.New on one literal (look 11)", false, [],   none),
 ([], some "var's door: strconv.ErrSyntax is laid by its own call of errors.New on one literal (look 11)", false, [],   none),
 ([],   some     "var's door: the look of gosem.cut.vars went over the folder that the caller named as the repository's root (look 11)",   false, [], none),
 ([], some "var's door: unicode/utf8.acceptRanges is laid by its own initialiser, plain data (look 11)", false, [], none),
 ([], some "var's door: unicode/utf8.first is laid by its text alone (pinned 1)", false, [], none),
 ([275,275],none,false,[10,11,7,6,9,8,0,3,12,13,2,1],none)]
theorem tk_16 : (List.range' 800 48).map (rowOf Tryz.prog) = tab_16 := by kernel_rfl
def tab : List (List Row5) := [tab_0,tab_1,tab_2,tab_3,tab_4,tab_5,tab_6,tab_7,tab_8,tab_9,tab_10,tab_11,tab_12,tab_13,tab_14,tab_15,tab_16]
theorem tab_chunk : ∀ (k : Nat) (l : List Row5),tab[k]? = some l → (List.range' (50 * k) l.length).map (rowOf Tryz.prog) = l
 | 0,l,h => by
  obtain rfl : tab_0 = l := Option.some.inj h
  exact tk_0
 | 1,l,h => by
  obtain rfl : tab_1 = l := Option.some.inj h
  exact tk_1
 | 2,l,h => by
  obtain rfl : tab_2 = l := Option.some.inj h
  exact tk_2
 | 3,l,h => by
  obtain rfl : tab_3 = l := Option.some.inj h
  exact tk_3
 | 4,l,h => by
  obtain rfl : tab_4 = l := Option.some.inj h
  exact tk_4
 | 5,l,h => by
  obtain rfl : tab_5 = l := Option.some.inj h
  exact tk_5
 | 6,l,h => by
  obtain rfl : tab_6 = l := Option.some.inj h
  exact tk_6
 | 7,l,h => by
  obtain rfl : tab_7 = l := Option.some.inj h
  exact tk_7
 | 8,l,h => by
  obtain rfl : tab_8 = l := Option.some.inj h
  exact tk_8
 | 9,l,h => by
  obtain rfl : tab_9 = l := Option.some.inj h
  exact tk_9
 | 10,l,h => by
  obtain rfl : tab_10 = l := Option.some.inj h
  exact tk_10
 | 11,l,h => by
  obtain rfl : tab_11 = l := Option.some.inj h
  exact tk_11
 | 12,l,h => by
  obtain rfl : tab_12 = l := Option.some.inj h
  exact tk_12
 | 13,l,h => by
  obtain rfl : tab_13 = l := Option.some.inj h
  exact tk_13
 | 14,l,h => by
  obtain rfl : tab_14 = l := Option.some.inj h
  exact tk_14
 | 15,l,h => by
  obtain rfl : tab_15 = l := Option.some.inj h
  exact tk_15
 | 16,l,h => by
  obtain rfl : tab_16 = l := Option.some.inj h
  exact tk_16
 | k + 17,l,h => by simp [tab] at h
theorem tab_len : ∀ (k : Nat) (l : List Row5),tab[k]? = some l → l.length = min 50 (848 - 50 * k)
 | 0,l,h => by
  obtain rfl : tab_0 = l := Option.some.inj h
  rfl
 | 1,l,h => by
  obtain rfl : tab_1 = l := Option.some.inj h
  rfl
 | 2,l,h => by
  obtain rfl : tab_2 = l := Option.some.inj h
  rfl
 | 3,l,h => by
  obtain rfl : tab_3 = l := Option.some.inj h
  rfl
 | 4,l,h => by
  obtain rfl : tab_4 = l := Option.some.inj h
  rfl
 | 5,l,h => by
  obtain rfl : tab_5 = l := Option.some.inj h
  rfl
 | 6,l,h => by
  obtain rfl : tab_6 = l := Option.some.inj h
  rfl
 | 7,l,h => by
  obtain rfl : tab_7 = l := Option.some.inj h
  rfl
 | 8,l,h => by
  obtain rfl : tab_8 = l := Option.some.inj h
  rfl
 | 9,l,h => by
  obtain rfl : tab_9 = l := Option.some.inj h
  rfl
 | 10,l,h => by
  obtain rfl : tab_10 = l := Option.some.inj h
  rfl
 | 11,l,h => by
  obtain rfl : tab_11 = l := Option.some.inj h
  rfl
 | 12,l,h => by
  obtain rfl : tab_12 = l := Option.some.inj h
  rfl
 | 13,l,h => by
  obtain rfl : tab_13 = l := Option.some.inj h
  rfl
 | 14,l,h => by
  obtain rfl : tab_14 = l := Option.some.inj h
  rfl
 | 15,l,h => by
  obtain rfl : tab_15 = l := Option.some.inj h
  rfl
 | 16,l,h => by
  obtain rfl : tab_16 = l := Option.some.inj h
  rfl
 | k + 17,l,h => by simp [tab] at h
theorem funcs_size : Tryz.prog.funcs.size = 848 := by kernel_rfl
theorem seat_tab : TabOk Tryz.prog tab := tabOk_of funcs_size tab_chunk tab_len (by decide)
theorem seat_sum : (Tryz.prog.funcs.toList.map fun g => (Tryz.prog.leadsTo g).length + 1).sum = sumT tab := sum_is funcs_size tab_chunk tab_len (by decide)
theorem reach_of (f : Nat) : Tryz.prog.closure f = reachT tab f := closure_is seat_tab seat_sum f
end Go.Proofs.YtnoghchcboiojaaGreatDoor
end
section
set_option maxRecDepth 100000
namespace Go.Proofs.YtnoghchcboiojaaGreatDoor
open Go
def plainRow (P : Program) (t : TypeId) : Bool := match P.underlying t with
 | some (.map k _) => (match P.underlying k with | some (.array _ _) | some (.struct _) => false | _ => true)
 | _ => true
theorem plain634 : plainRow Tryz.prog 634 = false := by kernel_rfl
theorem seat_plainKeys : Tryz.prog.plainKeys = false := by
 unfold Program.plainKeys
 have h : (List.range Tryz.prog.types.size).all (plainRow Tryz.prog) = false := by
  rw [types_size]
  exact List.all_eq_false.2 ⟨634,List.mem_range.2 (by decide),by rw [plain634];simp⟩
 exact h
theorem seat_stopsHeard : Tryz.prog.stopsHeard = true := by kernel_rfl
theorem seat_stops : Tryz.prog.stops = [] := by kernel_rfl
theorem seat_stopKnobs : Tryz.prog.stopKnobs = [] := by kernel_rfl
end Go.Proofs.YtnoghchcboiojaaGreatDoor
end
