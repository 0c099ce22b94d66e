/- Texts of the proofs over heraldlaw18, put together by a program (merge18c.py): Rp5. -/
import Derived.Test.YtnoghchcboiojaaGreatDoorC0
import Derived.Lib.Join
set_option linter.unusedVariables false
set_option linter.unusedSimpArgs false
namespace Go.Rn
theorem quoteB_len4 (c : UInt8) : (quoteB c).length ≤ 4 := by
 unfold quoteB
 split
 ·simp
 ·split
  ·simp
  ·split <;> simp
theorem quote_len (s : Bs) : (quote s).length ≤ 4 * s.length + 2 := by
 have : ∀ s : Bs,(s.flatMap quoteB).length ≤ 4 * s.length := by
  intro s
  induction s with
  | nil => simp
  | cons c s ih =>
   have := quoteB_len4 c
   simp only [List.flatMap_cons,List.length_append,List.length_cons];omega
 have := this s
 unfold quote
 simp only [List.length_cons,List.length_append,List.length_nil];omega
theorem placed_len (s : Bs) : (placed s).length ≤ 4 * s.length + 2 := by
 unfold placed
 split
 ·omega
 ·exact quote_len s
theorem itoa_len {n : Int} (h1 : -2147483647 ≤ n) (h2 : n ≤ 2147483647) : (Lib.itoa n).length ≤ 11 := by
 unfold Lib.itoa
 split
 ·have := dec_len n.natAbs (by omega)
  simp only [List.length_cons];omega
 ·have := dec_len n.toNat (by omega)
  omega
theorem numT_len {n : Int} {t : Bs} (h : numT n = some t) : t.length ≤ 11 := by
 obtain ⟨h1,h2,rfl⟩ := numT_some h
 exact itoa_len h1 h2
theorem joinW_len {B : Nat} : ∀ {l : List Bs},(∀ w ∈ l,w.length ≤ B) → (joinW l).length ≤ l.length * (B + 1)
 | [],_ => by simp [joinW]
 | [w],h => by
  have := h w (by simp)
  simp [joinW];omega
 | w :: v :: l,h => by
  have h1 := h w (by simp)
  have h2 := joinW_len (l := v :: l) (fun x hx => h x (by simp [hx]))
  simp only [joinW,List.length_append,List.length_cons] at h2 ⊢
  simp only [Nat.add_mul,Nat.one_mul] at h2 ⊢
  omega
theorem joinS_len {B : Nat} : ∀ {l : List Bs},(∀ w ∈ l,w.length ≤ B) → (joinS l).length ≤ l.length * (B + 3)
 | [],_ => by simp [joinS]
 | [w],h => by
  have := h w (by simp)
  simp [joinS];omega
 | w :: v :: l,h => by
  have h1 := h w (by simp)
  have h2 := joinS_len (l := v :: l) (fun x hx => h x (by simp [hx]))
  simp only [joinS,List.length_append,List.length_cons] at h2 ⊢
  simp only [Nat.add_mul,Nat.one_mul] at h2 ⊢
  omega
theorem opArg_len {o : Op} {a : OA} {ws : List Bs} (h : opArgT o a = some ws) : ws.length ≤ 2 ∧ ∀ w ∈ ws,w.length ≤ 1026 := by
 unfold opArgT at h
 cases a with
 | p =>
  simp only at h
  split at h
  ·rename_i hl
   cases h
   have := placed_len o.place
   simp;omega
  ·cases h
 | d =>
  simp only at h
  split at h
  ·rename_i hl
   cases h
   have := quote_len o.data
   simp;omega
  ·cases h
 | v =>
  simp only at h
  obtain ⟨t,ht,rfl⟩ := Option.map_eq_some_iff.1 h
  have := numT_len ht
  simp;omega
 | f =>
  simp only at h
  repeat' split at h
  all_goals first
   | (cases h;simp [w_brief,w_counted];done)
   | cases h
theorem opArgs_len {o : Op} : ∀ {l : List OA} {ws : List Bs},opArgsT o l = some ws → ws.length ≤ 2 * l.length ∧ ∀ w ∈ ws,w.length ≤ 1026
 | [],ws,h => by simp [opArgsT] at h;subst h;simp
 | a :: l,ws,h => by
  unfold opArgsT at h
  split at h
  ·rename_i x y hx hy
   cases h
   have h1 := opArg_len hx
   have h2 := opArgs_len hy
   refine ⟨by simp;omega,fun w hw => ?_⟩
   rcases List.mem_append.1 hw with q | q
   ·exact h1.2 w q
   ·exact h2.2 w q
  ·cases h
def clrO (o : Op) : OA → Op
 | .p => { o with place := [] }
 | .d => { o with data := [] }
 | .v => { o with version := 0 }
 | .f => { o with flags := 0 }
def opRes (o : Op) (lf : Op) (acc : List Bs) (l : List OA) : Option Bs := match opArgsT o l with
 | none => none
 | some ws => if l.foldl clrO lf = {} then some (joinW (acc ++ ws)) else none
theorem opRes_nil (o lf : Op) (acc : List Bs) : opRes o lf acc [] = if lf = {} then some (joinW acc) else none := by
 simp [opRes,opArgsT]
theorem opRes_cons (o lf : Op) (acc : List Bs) (a : OA) (l : List OA) : opRes o lf acc (a :: l) = match opArgT o a with
  | none => none
  | some x => opRes o (clrO lf a) (acc ++ x) l := by
 have e : opArgsT o (a :: l) = match opArgT o a,opArgsT o l with
  | some x,some y => some (x ++ y)
  | _,_ => none := rfl
 unfold opRes
 rw [e]
 cases opArgT o a with
 | none => rfl
 | some x =>
  cases opArgsT o l with
  | none => rfl
  | some y => simp only [List.append_assoc];rfl
def opR (o : Op) (q : Option (Bs × List OA)) : Option Bs := match q with
 | none => none
 | some (w,r) => opRes o { o with kind := 0 } [w] r
theorem clr_all (o : Op) (r : List OA) (h : r ∈ opTab.map (·.2)) : (r.foldl clrO { o with kind := 0 } = {}) ↔ (o.data = [] ∨ .d ∈ r) ∧ (o.version = 0 ∨ .v ∈ r) ∧ (o.flags = 0 ∨ .f ∈ r) := by
 obtain ⟨k,p,d,v,f⟩ := o
 simp only [opTab,List.map_cons,List.map_nil,List.mem_cons,List.not_mem_nil,or_false] at h
 rcases h with rfl | rfl | rfl | rfl | rfl | rfl | rfl <;> simp [clrO]
theorem opT_eq (o : Op) : opT o = opR o (if 1 ≤ o.kind then opTab[(o.kind - 1).toNat]? else none) := by
 unfold opT
 by_cases h1 : 1 ≤ o.kind
 ·by_cases h2 : o.kind ≤ 7
  ·rw [if_pos ⟨h1,h2⟩,if_pos h1]
   have e : o.kind.toNat - 1 = (o.kind - 1).toNat := by omega
   rw [e]
   cases hq : opTab[(o.kind - 1).toNat]? with
   | none => rfl
   | some q =>
    obtain ⟨w,r⟩ := q
    have hm : r ∈ opTab.map (·.2) := List.mem_map.2 ⟨_,List.mem_of_getElem? hq,rfl⟩
    have hc := clr_all o r hm
    simp only [opR,opRes]
    cases hw : opArgsT o r with
    | none => split <;> rfl
    | some ws =>
     by_cases hcc : r.foldl clrO { o with kind := 0 } = {}
     ·dsimp only
      rw [if_pos hcc,if_pos (hc.1 hcc)];rfl
     ·dsimp only
      rw [if_neg hcc,if_neg (fun q => hcc (hc.2 q))]
  ·rw [if_neg (fun q => h2 q.2),if_pos h1]
   have : opTab[(o.kind - 1).toNat]? = none := List.getElem?_eq_none_iff.2 (by
    have : opTab.length = 7 := rfl
    omega)
   rw [this];rfl
 ·rw [if_neg (fun q => h1 q.1),if_neg h1];rfl
theorem opTab_len : ∀ p ∈ opTab,p.2.length ≤ 3 ∧ p.1.length ≤ 5 := by decide
theorem stepTab_len : ∀ p ∈ stepTab,p.2.length ≤ 3 ∧ p.1.length ≤ 7 := by decide
theorem opT_len {o : Op} {t : Bs} (h : opT o = some t) : t.length ≤ 8000 := by
 rw [opT_eq] at h
 split at h
 ·cases hq : opTab[(o.kind - 1).toNat]? with
  | none => rw [hq] at h;cases h
  | some q =>
   obtain ⟨w,r⟩ := q
   rw [hq] at h
   have hl := opTab_len _ (List.mem_of_getElem? hq)
   simp only [opR,opRes] at h
   split at h
   ·cases h
   ·rename_i ws hws
    split at h
    ·cases h
     have h1 := opArgs_len hws
     have := joinW_len (B := 1026) (l := [w] ++ ws) (fun x hx => by
      rcases List.mem_append.1 hx with q | q
      ·simp at q;subst q;simp only at hl;omega
      ·exact h1.2 x q)
     simp only [List.length_append,List.length_cons,List.length_nil] at this
     simp only at hl
     have h3 : (1 + ws.length) * (1026 + 1) ≤ 7 * 1027 := Nat.mul_le_mul_right _ (by omega)
     simp only [List.length_nil,Nat.zero_add] at *
     omega
    ·cases h
 ·cases h
theorem mapM_len {α β : Type} {f : α → Option β} : ∀ {l : List α} {m : List β},l.mapM f = some m → m.length = l.length
 | [],m,h => by simp at h;subst h;rfl
 | a :: l,m,h => by
  simp only [List.mapM_cons,Option.bind_eq_bind,Option.bind_eq_some_iff] at h
  obtain ⟨b,hb,m',hm,h⟩ := h
  cases h
  simp [mapM_len hm]
theorem opsT_len {l : List Op} {t : Bs} (h : opsT l = some t) : t.length ≤ 40000 := by
 unfold opsT at h
 split at h
 ·rename_i hl
  obtain ⟨m,hm,rfl⟩ := Option.map_eq_some_iff.1 h
  have h1 := mapM_len hm
  have := joinS_len (B := 8000) (l := m) (fun x hx => by
   obtain ⟨y,_,hy⟩ := mapM_mem hm x hx
   exact opT_len hy)
  have h3 : m.length * (8000 + 3) ≤ 4 * 8003 := Nat.mul_le_mul_right _ (by omega)
  omega
 ·cases h
theorem arg_len {s : St} {y : Ar} {t : Bs} (h : argT s y = some t) : t.length ≤ 40000 := by
 cases y with
 | a => have := numT_len h;omega
 | b => have := numT_len h;omega
 | c => have := numT_len h;omega
 | p =>
  simp only [argT] at h
  split at h
  ·cases h
   have := placed_len s.place
   omega
  ·cases h
 | k =>
  simp only [argT,kindT] at h
  repeat' split at h
  all_goals first
   | (cases h;simp [w_node,w_kids,w_subtree];done)
   | cases h
 | o => exact opsT_len h
def clrS (s : St) : Ar → St
 | .a => { s with a := 0 }
 | .b => { s with b := 0 }
 | .c => { s with c := 0 }
 | .p => { s with place := [] }
 | .k => { s with b := 0 }
 | .o => { s with ops := [] }
def stRes (s : St) (lf : St) (acc : List Bs) (l : List Ar) : Option Bs := match l.mapM (argT s) with
 | none => none
 | some ws => if l.foldl clrS lf = {} then some (joinW (acc ++ ws)) else none
theorem stRes_nil (s lf : St) (acc : List Bs) : stRes s lf acc [] = if lf = {} then some (joinW acc) else none := by
 simp [stRes]
theorem stRes_cons (s lf : St) (acc : List Bs) (y : Ar) (l : List Ar) : stRes s lf acc (y :: l) = match argT s y with
  | none => none
  | some x => stRes s (clrS lf y) (acc ++ [x]) l := by
 unfold stRes
 simp only [List.mapM_cons]
 cases argT s y with
 | none => rfl
 | some x =>
  simp only [Option.bind_eq_bind,Option.bind_some]
  cases l.mapM (argT s) with
  | none => rfl
  | some y =>
   have e : acc ++ x :: y = acc ++ [x] ++ y := by simp
   show (if _ then some (joinW (acc ++ x :: y)) else none) = _
   rw [e];rfl
def stR (s : St) (q : Option (Bs × List Ar)) : Option Bs := match q with
 | none => none
 | some (w,r) => stRes s { s with kind := 0 } [w] r
theorem clrS_all (s : St) (r : List Ar) (h : r ∈ stepTab.map (·.2)) : (r.foldl clrS { s with kind := 0 } = {}) ↔ (s.a = 0 ∨ .a ∈ r) ∧ (s.b = 0 ∨ .b ∈ r ∨ .k ∈ r) ∧ (s.c = 0 ∨ .c ∈ r) ∧ (s.place = [] ∨ .p ∈ r) ∧ (s.ops = [] ∨ .o ∈ r) := by
 obtain ⟨k,a,b,c,p,o⟩ := s
 simp only [stepTab,List.map_cons,List.map_nil,List.mem_cons,List.not_mem_nil,or_false] at h
 rcases h with rfl | rfl | rfl | rfl | rfl | rfl | rfl | rfl | rfl | rfl | rfl | rfl | rfl | rfl | rfl | rfl <;> simp [clrS]
theorem stT_eq (s : St) : stT s = stR s (if 1 ≤ s.kind then stepTab[(s.kind - 1).toNat]? else none) := by
 unfold stT
 by_cases h1 : 1 ≤ s.kind
 ·by_cases h2 : s.kind ≤ 16
  ·rw [if_pos ⟨h1,h2⟩,if_pos h1]
   have e : s.kind.toNat - 1 = (s.kind - 1).toNat := by omega
   rw [e]
   cases hq : stepTab[(s.kind - 1).toNat]? with
   | none => rfl
   | some q =>
    obtain ⟨w,r⟩ := q
    have hm : r ∈ stepTab.map (·.2) := List.mem_map.2 ⟨_,List.mem_of_getElem? hq,rfl⟩
    have hc := clrS_all s r hm
    simp only [stR,stRes]
    cases hw : r.mapM (argT s) with
    | none => split <;> rfl
    | some ws =>
     by_cases hcc : r.foldl clrS { s with kind := 0 } = {}
     ·dsimp only
      rw [if_pos hcc,if_pos (hc.1 hcc)];rfl
     ·dsimp only
      rw [if_neg hcc,if_neg (fun q => hcc (hc.2 q))]
  ·rw [if_neg (fun q => h2 q.2),if_pos h1]
   have : stepTab[(s.kind - 1).toNat]? = none := List.getElem?_eq_none_iff.2 (by
    have : stepTab.length = 16 := rfl
    omega)
   rw [this];rfl
 ·rw [if_neg (fun q => h1 q.1),if_neg h1];rfl
theorem stT_len {s : St} {t : Bs} (h : stT s = some t) : t.length ≤ 200000 := by
 rw [stT_eq] at h
 split at h
 ·cases hq : stepTab[(s.kind - 1).toNat]? with
  | none => rw [hq] at h;cases h
  | some q =>
   obtain ⟨w,r⟩ := q
   rw [hq] at h
   have hl := stepTab_len _ (List.mem_of_getElem? hq)
   simp only [stR,stRes] at h
   split at h
   ·cases h
   ·rename_i ws hws
    split at h
    ·cases h
     have h1 := mapM_len hws
     have := joinW_len (B := 40000) (l := [w] ++ ws) (fun x hx => by
      rcases List.mem_append.1 hx with q | q
      ·simp at q;subst q;simp only at hl;omega
      ·obtain ⟨y,_,hy⟩ := mapM_mem hws x q
       exact arg_len hy)
     simp only [List.length_append,List.length_cons,List.length_nil] at this
     simp only at hl
     have h3 : (1 + ws.length) * (40000 + 1) ≤ 4 * 40001 := Nat.mul_le_mul_right _ (by omega)
     simp only [List.length_nil,Nat.zero_add] at *
     omega
    ·cases h
 ·cases h
theorem joinW_lib : ∀ l : List Bs,Lib.join l [32] = joinW l
 | [] => rfl
 | [w] => by simp [Lib.join,joinW,List.intercalate,List.intersperse]
 | w :: v :: l => by
  have ih := joinW_lib (v :: l)
  simp only [Lib.join,joinW,List.intercalate,List.intersperse] at ih ⊢
  rw [← ih];simp
theorem joinS_lib : ∀ l : List Bs,Lib.join l [32,59,32] = joinS l
 | [] => rfl
 | [w] => by simp [Lib.join,joinS,List.intercalate,List.intersperse]
 | w :: v :: l => by
  have ih := joinS_lib (v :: l)
  simp only [Lib.join,joinS,List.intercalate,List.intersperse] at ih ⊢
  rw [← ih];simp
end Go.Rn
