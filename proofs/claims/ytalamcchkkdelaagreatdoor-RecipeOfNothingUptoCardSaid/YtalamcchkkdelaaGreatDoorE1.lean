/- Texts of the proofs over heraldlaw20, put together by a program (merge20.py): Oa2. -/
import Derived.Test.YtalamcchkkdelaaGreatDoorE0
import Derived.Test.YtalamcchkkdelaaGreatDoorC14
import Derived.JoinedCond
import Derived.WalkKit
set_option linter.unusedVariables false
set_option linter.unusedSimpArgs false
namespace Go.Proofs.YtalamcchkkdelaaGreatDoor
open Go.Ev Go.ChangeShapes Go.WideShapes Go.RowKit
section
variable {h : H} {cs : List Value}
theorem cb_int {k : IntKind} : CellsB h (.int k) cs ↔ ∃ n,cs = [.int k n] ∧ (Lit.int k n).wf = true := by simp only [CellsB]
theorem cb_bool : CellsB h .bool cs ↔ ∃ b,cs = [.bool b] := by simp only [CellsB]
theorem cb_str : CellsB h .str cs ↔ ∃ s : ByteArray,cs = [.string s] ∧ s.size ≤ 1048576 := by simp only [CellsB]
theorem cb_struct {fs : List Ty} : CellsB h (.struct fs) cs ↔ StructB h fs cs := by simp only [CellsB]
theorem cb_nil : StructB h [] cs ↔ cs = [] := by simp only [StructB]
theorem cb_cons {f : Ty} {fs : List Ty} : StructB h (f :: fs) cs ↔ f.size ≤ cs.length ∧ CellsB h f (cs.take f.size) ∧ StructB h fs (cs.drop f.size) := by simp only [StructB]
theorem slB_of {e : Ty} {α : Type} {R : H → List Value → α → Prop} {S : α → Prop} (hex : ∀ cs,CellsB h e cs → ∃ x,R h cs x ∧ S x) {v : Value} (hc : CellsB h (.slice e) [v]) :
  ∃ xs : List α,SlR T e.size R h v xs ∧ (∀ x ∈ xs,S x) ∧ xs.length ≤ 1048576 := by
 simp only [CellsB] at hc
 rcases hc with e | e | ⟨b,o,n,c,bs,e,hnc,_,hz,hbs,hg,hi⟩
 ·simp at e;subst e
  exact ⟨[],.inl ⟨.inl rfl,rfl⟩,by simp,by simp⟩
 ·simp at e;subst e
  exact ⟨[],.inl ⟨.inr rfl,rfl⟩,by simp,by simp⟩
 ·simp at e;subst e
  have hx : ∀ i,i < n → ∃ x,R h ((bs.drop (o + i * e.size)).take e.size) x ∧ S x := fun i hi' => hex _ (hi i hi').2
  refine ⟨(List.range n).attach.map fun i => Classical.choose (hx i.1 (List.mem_range.1 i.2)),.inr ⟨b,o,c,bs,by simp,by simpa using hnc,trivial,cel_of hg,?_⟩,?_,by simpa using hz⟩
  ·intro i a ha
   simp only [List.getElem?_map,Option.map_eq_some_iff] at ha
   obtain ⟨⟨j,hj⟩,hj',rfl⟩ := ha
   have hij : i = j := by
    have := congrArg (Option.map Subtype.val) hj'
    rw [← List.getElem?_map,List.attach_map_subtype_val] at this
    have hlt := List.mem_range.1 hj
    obtain ⟨h1,h2⟩ := List.getElem?_eq_some_iff.1 (show (List.range n)[i]? = some j from this)
    simpa using h2
   subst hij
   have hlt := List.mem_range.1 hj
   exact ⟨(hi i hlt).1,(Classical.choose_spec (hx i hlt)).1⟩
  ·intro x hx'
   simp only [List.mem_map] at hx'
   obtain ⟨⟨j,hj⟩,_,rfl⟩ := hx'
   exact (Classical.choose_spec (hx j (List.mem_range.1 hj))).2
def tI : Ty := .int .i64
def opT : Ty := .struct [tI,.str,.str,tI,tI]
def rzT : Ty := .struct [.str,.str,tI,tI,tI,tI,.slice .str]
def snT : Ty := .struct [.str,.str,tI]
def cgT : Ty := .struct [.struct [tI,.str,.str,tI],.slice tI]
def shT : Ty := .struct [tI,.str,tI,.slice snT]
def ptT : Ty := .struct [tI,shT]
def tdT : Ty := .struct [tI,tI,tI,tI,tI,tI,tI,.slice opT,.struct [tI,tI,tI,.slice rzT],.struct [tI,.str,tI,tI],.struct [tI,tI,.bool,.slice cgT,.slice ptT],ptT]
def acT : Ty := .struct [tI,tI,tI,.str,.slice tI,tdT]
theorem ac_ty : tyOk Tryz.prog (.slice acT) 24 = true := by kernel_rfl
variable {v : Value}
theorem ob_ints (hc : CellsB h (.slice tI) [v]) : ∃ xs,SlR T 1 IntR h v xs ∧ xs.length ≤ 1048576 := by
 obtain ⟨xs,s,_,hz⟩ := slB_of (R := IntR) (S := fun _ => True) (fun cs hc => by
  obtain ⟨n,rfl,_⟩ := cb_int.1 hc
  exact ⟨n,rfl,trivial⟩) hc
 exact ⟨xs,s,hz⟩
theorem ob_txts (hc : CellsB h (.slice .str) [v]) : ∃ xs,SlR T 1 TxR h v xs ∧ xs.length ≤ 1048576 := by
 obtain ⟨xs,s,_,hz⟩ := slB_of (R := TxR) (S := fun _ => True) (fun cs hc => by
  obtain ⟨n,rfl,_⟩ := cb_str.1 hc
  exact ⟨n,rfl,trivial⟩) hc
 exact ⟨xs,s,hz⟩
theorem ob_ops (hc : CellsB h (.slice opT) [v]) : ∃ xs,SlR T 5 OpR h v xs ∧ xs.length ≤ 1048576 := by
 obtain ⟨xs,s,_,hz⟩ := slB_of (R := OpR) (S := fun _ => True) (fun cs hc => by
  have hl : cs.length = 5 := (cellsB_plain _ hc).1
  match cs,hl with
  | [c0,c1,c2,c3,c4],_ =>
   simp [opT,tI,cb_struct,cb_cons,cb_nil,cb_int,cb_str,Ty.size] at hc
   obtain ⟨⟨a,rfl,_⟩,⟨b,rfl,_⟩,⟨c,rfl,_⟩,⟨d,rfl,_⟩,⟨e,rfl,_⟩⟩ := hc
   exact ⟨⟨a,b,c,d,e⟩,rfl,trivial⟩) hc
 exact ⟨xs,s,hz⟩
theorem ob_sns (hc : CellsB h (.slice snT) [v]) : ∃ xs,SlR T 3 SnR h v xs ∧ xs.length ≤ 1048576 ∧ ∀ n ∈ xs,slen n.place ≤ 140737488355328 := by
 obtain ⟨xs,s,hs,hz⟩ := slB_of (R := SnR) (S := fun n : Sn => slen n.place ≤ 140737488355328) (fun cs hc => by
  have hl : cs.length = 3 := (cellsB_plain _ hc).1
  match cs,hl with
  | [c0,c1,c2],_ =>
   simp [snT,tI,cb_struct,cb_cons,cb_nil,cb_int,cb_str,Ty.size] at hc
   obtain ⟨⟨a,rfl,ha⟩,⟨b,rfl,_⟩,⟨c,rfl,_⟩⟩ := hc
   exact ⟨⟨a,b,c⟩,rfl,by show slen a ≤ _;omega⟩) hc
 exact ⟨xs,s,hz,hs⟩
theorem ob_rzs (hc : CellsB h (.slice rzT) [v]) : ∃ xs,SlR T 7 RzR h v xs ∧ xs.length ≤ 1048576 ∧ ∀ r ∈ xs,r.kids.length ≤ 2097152 := by
 obtain ⟨xs,s,hs,hz⟩ := slB_of (R := RzR) (S := fun r : Rz => r.kids.length ≤ 2097152) (fun cs hc => by
  have hl : cs.length = 7 := (cellsB_plain _ hc).1
  match cs,hl with
  | [c0,c1,c2,c3,c4,c5,c6],_ =>
   simp [rzT,tI,cb_struct,cb_cons,cb_nil,cb_int,cb_str,Ty.size] at hc
   obtain ⟨⟨a,rfl,_⟩,⟨b,rfl,_⟩,⟨c,rfl,_⟩,⟨d,rfl,_⟩,⟨e,rfl,_⟩,⟨f,rfl,_⟩,hv⟩ := hc
   obtain ⟨ks,sk,hk⟩ := ob_txts hv
   exact ⟨⟨a,b,c,d,e,f,ks⟩,⟨_,rfl,sk⟩,by show ks.length ≤ _;omega⟩) hc
 exact ⟨xs,s,hz,hs⟩
theorem ob_cgs (hc : CellsB h (.slice cgT) [v]) : ∃ xs,SlR T 5 CgR h v xs ∧ xs.length ≤ 1048576 ∧ ∀ r ∈ xs,r.tags.length ≤ 2097152 := by
 obtain ⟨xs,s,hs,hz⟩ := slB_of (R := CgR) (S := fun r : Cg => r.tags.length ≤ 2097152) (fun cs hc => by
  have hl : cs.length = 5 := (cellsB_plain _ hc).1
  match cs,hl with
  | [c0,c1,c2,c3,c4],_ =>
   simp [cgT,cb_struct,cb_cons,cb_nil,cb_str,Ty.size,Ty.sizes,show ∀ cs,CellsB h tI cs ↔ ∃ n,cs = [.int .i64 n] ∧ (Lit.int .i64 n).wf = true from fun cs => cb_int,show tI.size = 1 from rfl] at hc
   obtain ⟨⟨⟨a,rfl,_⟩,⟨b,rfl,_⟩,⟨c,rfl,_⟩,⟨d,rfl,_⟩⟩,hv⟩ := hc
   obtain ⟨ks,sk,hk⟩ := ob_ints hv
   exact ⟨⟨a,b,c,d,ks⟩,⟨_,rfl,sk⟩,by show ks.length ≤ _;omega⟩) hc
 exact ⟨xs,s,hz,hs⟩
theorem ob_pts (hc : CellsB h (.slice ptT) [v]) : ∃ xs,SlR T 5 PtR h v xs ∧ xs.length ≤ 1048576 ∧ ∀ p ∈ xs,p.nodes.length ≤ 2097152 ∧ ∀ n ∈ p.nodes,slen n.place ≤ 140737488355328 := by
 obtain ⟨xs,s,hs,hz⟩ := slB_of (R := PtR) (S := fun p : Pt => p.nodes.length ≤ 2097152 ∧ ∀ n ∈ p.nodes,slen n.place ≤ 140737488355328) (fun cs hc => by
  have hl : cs.length = 5 := (cellsB_plain _ hc).1
  match cs,hl with
  | [c0,c1,c2,c3,c4],_ =>
   simp [ptT,shT,tI,cb_struct,cb_cons,cb_nil,cb_int,cb_str,Ty.size,Ty.sizes] at hc
   obtain ⟨⟨a,rfl,_⟩,⟨b,rfl,_⟩,⟨c,rfl,_⟩,⟨d,rfl,_⟩,hv⟩ := hc
   obtain ⟨ks,sk,hk,hn⟩ := ob_sns hv
   exact ⟨⟨a,b,c,d,ks⟩,⟨_,rfl,sk⟩,by show ks.length ≤ _;omega,hn⟩) hc
 exact ⟨xs,s,hz,hs⟩
theorem ob_acts (hc : CellsB h (.slice acT) [v]) : ∃ xs,SlR T 31 AcE h v xs := by
 obtain ⟨xs,s,_,hz⟩ := slB_of (R := AcE) (S := fun _ => True) (fun cs hc => by
  have hl : cs.length = 31 := (cellsB_plain _ hc).1
  match cs,hl with
  | [c0,c1,c2,c3,c4,c5,c6,c7,c8,c9,c10,c11,c12,c13,c14,c15,c16,c17,c18,c19,c20,c21,c22,c23,c24,c25,c26,c27,c28,c29,c30],_ =>
   simp [acT,tdT,ptT,shT,cb_struct,cb_cons,cb_nil,cb_str,cb_bool,-Bool.exists_bool,Ty.size,Ty.sizes,show ∀ cs,CellsB h tI cs ↔ ∃ n,cs = [.int .i64 n] ∧ (Lit.int .i64 n).wf = true from fun cs => cb_int,show tI.size = 1 from rfl] at hc
   obtain ⟨⟨k,rfl,_⟩,⟨a,rfl,_⟩,⟨b,rfl,_⟩,⟨da,rfl,_⟩,hN,⟨a0,rfl,_⟩,⟨a1,rfl,_⟩,⟨ki,rfl,_⟩,⟨a3,rfl,_⟩,⟨a4,rfl,_⟩,⟨st,rfl,_⟩,⟨co,rfl,_⟩,hO,⟨⟨r0,rfl,_⟩,⟨r1,rfl,_⟩,⟨r2,rfl,_⟩,hR⟩,⟨⟨w0,rfl,_⟩,⟨w1,rfl,_⟩,⟨w2,rfl,_⟩,⟨w3,rfl,_⟩⟩,⟨⟨i0,rfl,_⟩,⟨i1,rfl,_⟩,⟨mk,rfl⟩,hC,hP⟩,⟨p0,rfl,_⟩,⟨p1,rfl,_⟩,⟨p2,rfl,_⟩,⟨p3,rfl,_⟩,hS⟩ := hc
   obtain ⟨ns,sN,lN⟩ := ob_ints hN
   obtain ⟨os,sO,lO⟩ := ob_ops hO
   obtain ⟨rs,sR,lR,bR⟩ := ob_rzs hR
   obtain ⟨gs,sC,lC,bC⟩ := ob_cgs hC
   obtain ⟨ps,sP,lP,bP⟩ := ob_pts hP
   obtain ⟨ss,sS,lS,bS⟩ := ob_sns hS
   exact ⟨⟨k,a,b,da,ns,⟨a0,a1,ki,a3,a4,st,co,os,r0,r1,r2,rs,w0,w1,w2,w3,i0,i1,mk,gs,ps,p0,p1,p2,p3,ss⟩⟩,⟨_,_,_,_,_,_,rfl,sN,by show ns.length ≤ _;omega,⟨sO,sR,sC,sP,sS⟩,⟨by show os.length ≤ _;omega,by show rs.length ≤ _;omega,bR,by show gs.length ≤ _;omega,bC,by show ps.length ≤ _;omega,bP,by show ss.length ≤ _;omega,bS⟩⟩,trivial⟩) hc
 exact ⟨xs,s⟩
end
end Go.Proofs.YtalamcchkkdelaaGreatDoor
