/- Texts of the proofs over heraldlaw18, put together by a program (merge18c.py): Rp0 Rp1 Rp6. -/
import Derived.Lib.ItoaNum
set_option linter.unusedVariables false
set_option linter.unusedSimpArgs false
namespace Go.Rn
abbrev Bs := List UInt8
def small (c : UInt8) : Bool := 97 ≤ c && c ≤ 122
def digit (c : UInt8) : Bool := 48 ≤ c && c ≤ 57
def bare (c : UInt8) : Bool := small c || digit c || (65 ≤ c && c ≤ 90) || c == 47 || c == 45 || c == 95 || c == 46
def blank (c : UInt8) : Bool := c == 32 || c == 9 || c == 13
def hex (c : UInt8) : Option UInt8 := if digit c then some (c - 48) else if 97 ≤ c && c ≤ 102 then some (c - 97 + 10) else if 65 ≤ c && c ≤ 70 then some (c - 65 + 10) else none
inductive Tok where
 | name (s : Bs)
 | num (n : Int)
 | place (s : Bs)
 | quoted (s : Bs)
 | semi
 deriving DecidableEq,Inhabited
def quo : Bs → Option (Bs × Bs)
 | [] => none
 | c :: r =>
  if c = 34 then some ([],r)
  else if c < 32 || c = 127 then none
  else if c ≠ 92 then (quo r).map fun p => (c :: p.1,p.2)
  else match r with
   | [] => none
   | e :: r1 =>
    if e = 34 || e = 92 then (quo r1).map fun p => (e :: p.1,p.2)
    else if e = 110 then (quo r1).map fun p => (10 :: p.1,p.2)
    else if e = 120 then match r1 with
     | a :: b :: r2 => match hex a,hex b with
      | some x,some y => (quo r2).map fun p => ((16 * x + y) :: p.1,p.2)
      | _,_ => none
     | _ => none
    else none
theorem u8 {p : UInt8 → Prop} [DecidablePred p] (h : ∀ k : Fin 256,p (UInt8.ofNat k.val)) (c : UInt8) : p c := by
 have := h ⟨c.toNat,c.toNat_lt⟩
 simpa using this
theorem quo_nil : quo [] = none := quo.eq_def []
theorem quo_cons (c : UInt8) (r : Bs) : quo (c :: r) = (if c = 34 then some ([],r)
  else if c < 32 || c = 127 then none
  else if c ≠ 92 then (quo r).map fun p => (c :: p.1,p.2)
  else match r with
   | [] => none
   | e :: r1 =>
    if e = 34 || e = 92 then (quo r1).map fun p => (e :: p.1,p.2)
    else if e = 110 then (quo r1).map fun p => (10 :: p.1,p.2)
    else if e = 120 then match r1 with
     | a :: b :: r2 => match hex a,hex b with
      | some x,some y => (quo r2).map fun p => ((16 * x + y) :: p.1,p.2)
      | _,_ => none
     | _ => none
    else none) := quo.eq_def (c :: r)
def natOf (d : Bs) : Nat := d.foldl (fun v c => 10 * v + (c.toNat - 48)) 0
def numeral1 (minus : Bool) (l1 : Bs) : Option (Int × Bs) :=
 if (l1.takeWhile digit).length == 0 || (l1.takeWhile digit).length > 10 || ((l1.takeWhile digit).head? == some 48 && ((l1.takeWhile digit).length > 1 || minus)) || (l1.dropWhile digit).head?.any small then none
 else if natOf (l1.takeWhile digit) > 2147483647 then none
 else some (if minus = true then -(natOf (l1.takeWhile digit) : Int) else natOf (l1.takeWhile digit),l1.dropWhile digit)
def numeral (l : Bs) : Option (Int × Bs) := numeral1 (l.head? == some 45) (if l.head? == some 45 then l.tail else l)
def one : Bs → Option (Tok × Bs)
 | [] => none
 | c :: r =>
  if small c then (if ((c :: r).dropWhile small).head?.any digit then none else some (.name ((c :: r).takeWhile small),(c :: r).dropWhile small))
  else if digit c || c = 45 then (numeral (c :: r)).map fun p => (.num p.1,p.2)
  else if c = 47 then some (.place ((c :: r).takeWhile bare),(c :: r).dropWhile bare)
  else if c = 34 then (quo r).map fun p => (.quoted p.1,p.2)
  else none
def lexN : Nat → Bs → Option (List Tok)
 | _,[] => some []
 | 0,_ :: _ => none
 | n + 1,c :: r =>
  if blank c then lexN n r
  else if c = 35 then some []
  else if c = 59 then (lexN n r).map fun l => .semi :: l
  else match one (c :: r) with
   | some (t,r1) => (lexN n r1).map fun l => t :: l
   | none => none
def lex (l : Bs) : Option (List Tok) := lexN l.length l
structure Op where
 kind : Int := 0
 place : Bs := []
 data : Bs := []
 version : Int := 0
 flags : Int := 0
 deriving DecidableEq,Inhabited
structure St where
 kind : Int := 0
 a : Int := 0
 b : Int := 0
 c : Int := 0
 place : Bs := []
 ops : List Op := []
 deriving DecidableEq,Inhabited
structure Ru where
 nodes : Int
 clients : Int
 queue : Int
 ring : Int
 window : Int
 lease : Int
 deriving DecidableEq,Inhabited
inductive Ar where
 | a | b | c | p | k | o
 deriving DecidableEq,Inhabited
inductive OA where
 | p | d | v | f
 deriving DecidableEq,Inhabited
def w_deliver : Bs := [100,101,108,105,118,101,114]
def w_drop : Bs := [100,114,111,112]
def w_double : Bs := [100,111,117,98,108,101]
def w_spoil : Bs := [115,112,111,105,108]
def w_tick : Bs := [116,105,99,107]
def w_crash : Bs := [99,114,97,115,104]
def w_within : Bs := [119,105,116,104,105,110]
def w_restart : Bs := [114,101,115,116,97,114,116]
def w_promote : Bs := [112,114,111,109,111,116,101]
def w_save : Bs := [115,97,118,101]
def w_do : Bs := [100,111]
def w_watch : Bs := [119,97,116,99,104]
def w_unwatch : Bs := [117,110,119,97,116,99,104]
def w_begin : Bs := [98,101,103,105,110]
def w_end : Bs := [101,110,100]
def w_calm : Bs := [99,97,108,109]
def w_make : Bs := [109,97,107,101]
def w_set : Bs := [115,101,116]
def w_check : Bs := [99,104,101,99,107]
def w_get : Bs := [103,101,116]
def w_look : Bs := [108,111,111,107]
def w_list : Bs := [108,105,115,116]
def w_brief : Bs := [98,114,105,101,102]
def w_counted : Bs := [99,111,117,110,116,101,100]
def w_node : Bs := [110,111,100,101]
def w_kids : Bs := [107,105,100,115]
def w_subtree : Bs := [115,117,98,116,114,101,101]
def w_world : Bs := [119,111,114,108,100]
def w_nodes : Bs := [110,111,100,101,115]
def w_clients : Bs := [99,108,105,101,110,116,115]
def w_queue : Bs := [113,117,101,117,101]
def w_ring : Bs := [114,105,110,103]
def w_window : Bs := [119,105,110,100,111,119]
def w_lease : Bs := [108,101,97,115,101]
def stepTab : List (Bs × List Ar) :=
 [(w_deliver,[.a]),(w_drop,[.a]),(w_double,[.a]),(w_spoil,[.a,.b,.c]),
  (w_tick,[.a]),(w_crash,[.a]),(w_within,[.a,.b]),(w_restart,[.a]),
  (w_promote,[.a,.b]),(w_save,[.a]),(w_do,[.a,.o]),(w_watch,[.a,.p,.k]),
  (w_unwatch,[.a,.b]),(w_begin,[.a]),(w_end,[.a]),(w_calm,[.a])]
def opTab : List (Bs × List OA) :=
 [(w_make,[.p,.d,.f]),(w_set,[.p,.d,.v]),(w_drop,[.p,.v]),(w_check,[.p,.v]),
  (w_get,[.p]),(w_look,[.p]),(w_list,[.p])]
def pNum : List Tok → Option (Int × List Tok)
 | .num n :: r => some (n,r)
 | _ => none
def pText (bareOk : Bool) : List Tok → Option (Bs × List Tok)
 | .place s :: r => if bareOk = true ∧ s.length ≤ 256 then some (s,r) else none
 | .quoted s :: r => if s.length ≤ 256 then some (s,r) else none
 | _ => none
def pIs (w : Bs) : List Tok → Option (List Tok)
 | .name s :: r => if s = w then some r else none
 | _ => none
def pBrief (t : List Tok) : Int × List Tok := match pIs w_brief t with
 | some r => (1,r)
 | none => (0,t)
def pCounted (f : Int) (t : List Tok) : Int × List Tok := match pIs w_counted t with
 | some r => (f + 2,r)
 | none => (f,t)
def pFlags (t : List Tok) : Int × List Tok := pCounted (pBrief t).1 (pBrief t).2
def pOpArg : OA → Op → List Tok → Option (Op × List Tok)
 | .p,o,t => (pText true t).map fun q => ({ o with place := q.1 },q.2)
 | .d,o,t => (pText false t).map fun q => ({ o with data := q.1 },q.2)
 | .v,o,t => (pNum t).map fun q => ({ o with version := q.1 },q.2)
 | .f,o,t => some ({ o with flags := (pFlags t).1 },(pFlags t).2)
def pOpArgs : List OA → Op → List Tok → Option (Op × List Tok)
 | [],o,t => some (o,t)
 | a :: l,o,t => match pOpArg a o t with
  | some (o1,t1) => pOpArgs l o1 t1
  | none => none
def findW {α : Type} (w : Bs) : Nat → List (Bs × α) → Option (Nat × α)
 | _,[] => none
 | k,(n,r) :: l => if n = w then some (k,r) else findW w (k + 1) l
def pOp : List Tok → Option (Op × List Tok)
 | .name w :: t => match findW w 1 opTab with
  | some (k,r) => pOpArgs r { kind := k } t
  | none => none
 | _ => none
def pOps : Nat → List Tok → Option (List Op)
 | 0,_ => none
 | n + 1,t => match pOp t with
  | some (o,[]) => some [o]
  | some (o,.semi :: t1) => (pOps n t1).map fun l => o :: l
  | _ => none
def pKind : List Tok → Option (Int × List Tok)
 | .name w :: r => if w = w_node then some (1,r) else if w = w_kids then some (2,r) else if w = w_subtree then some (3,r) else none
 | _ => none
def pArg : Ar → St → List Tok → Option (St × List Tok)
 | .a,s,t => (pNum t).map fun q => ({ s with a := q.1 },q.2)
 | .b,s,t => (pNum t).map fun q => ({ s with b := q.1 },q.2)
 | .c,s,t => (pNum t).map fun q => ({ s with c := q.1 },q.2)
 | .p,s,t => (pText true t).map fun q => ({ s with place := q.1 },q.2)
 | .k,s,t => (pKind t).map fun q => ({ s with b := q.1 },q.2)
 | .o,s,t => (pOps 4 t).map fun l => ({ s with ops := l },[])
def pArgs : List Ar → St → List Tok → Option (St × List Tok)
 | [],s,t => some (s,t)
 | y :: l,s,t => match pArg y s t with
  | some (s1,t1) => pArgs l s1 t1
  | none => none
def pStep : List Tok → Option St
 | .name w :: t => match findW w 1 stepTab with
  | some (k,r) => match pArgs r { kind := k } t with
   | some (s,[]) => some s
   | _ => none
  | none => none
 | _ => none
def pField (w : Bs) (t : List Tok) : Option (Int × List Tok) := match pIs w t with
 | some r => pNum r
 | none => none
def pFields : List Bs → List Tok → Option (List Int × List Tok)
 | [],t => some ([],t)
 | w :: l,t => match pField w t with
  | some (n,t1) => (pFields l t1).map fun q => (n :: q.1,q.2)
  | none => none
def ruleWords : List Bs := [w_nodes,w_clients,w_queue,w_ring,w_window,w_lease]
def pRules (t : List Tok) : Option Ru := match pIs w_world t with
 | some r => match pFields ruleWords r with
  | some ([n1,n2,n3,n4,n5,n6],[]) => some ⟨n1,n2,n3,n4,n5,n6⟩
  | _ => none
 | none => none
inductive PRes where
 | ok (r : Ru) (l : List St)
 | long (row : Nat)
 | bad (row : Nat)
 deriving DecidableEq,Inhabited
def splitL : Bs → List Bs
 | [] => [[]]
 | c :: r => if c = 10 then [] :: splitL r else match splitL r with
  | l :: ls => (c :: l) :: ls
  | [] => [[c]]
def pLines : List Bs → Nat → Option Ru → List St → PRes
 | [],_,none,_ => .bad 0
 | [],_,some r,acc => .ok r acc
 | l :: ls,row,bg,acc => match lex l with
  | none => .bad (row + 1)
  | some [] => pLines ls (row + 1) bg acc
  | some (t :: ts) => match bg with
   | none => match pRules (t :: ts) with
    | none => .bad (row + 1)
    | some r => pLines ls (row + 1) (some r) acc
   | some r => match pStep (t :: ts) with
    | none => .bad (row + 1)
    | some s => if acc.length = 400 then .long (row + 1) else pLines ls (row + 1) (some r) (acc ++ [s])
def parse (t : Bs) : PRes := if t.length > 65536 then .long 0 else pLines (splitL t) 0 none []
def hexD (n : Nat) : UInt8 := if n < 10 then UInt8.ofNat (48 + n) else UInt8.ofNat (87 + n)
def quoteB (c : UInt8) : Bs :=
 if c = 34 || c = 92 then [92,c]
 else if c = 10 then [92,110]
 else if c < 32 || c > 126 then [92,120,hexD (c.toNat / 16),hexD (c.toNat % 16)]
 else [c]
def quote (s : Bs) : Bs := 34 :: (s.flatMap quoteB ++ [34])
def placed (s : Bs) : Bs := if s.head? = some 47 ∧ s.all bare = true then s else quote s
def numT (n : Int) : Option Bs := if -2147483647 ≤ n ∧ n ≤ 2147483647 then some (Lib.itoa n) else none
def opArgT (o : Op) : OA → Option (List Bs)
 | .p => if o.place.length ≤ 256 then some [placed o.place] else none
 | .d => if o.data.length ≤ 256 then some [quote o.data] else none
 | .v => (numT o.version).map fun t => [t]
 | .f => if o.flags = 0 then some [] else if o.flags = 1 then some [w_brief] else if o.flags = 2 then some [w_counted] else if o.flags = 3 then some [w_brief,w_counted] else none
def opArgsT (o : Op) : List OA → Option (List Bs)
 | [] => some []
 | a :: l => match opArgT o a,opArgsT o l with
  | some x,some y => some (x ++ y)
  | _,_ => none
def joinW : List Bs → Bs
 | [] => []
 | [w] => w
 | w :: l => w ++ 32 :: joinW l
def opT (o : Op) : Option Bs :=
 if 1 ≤ o.kind ∧ o.kind ≤ 7 then match opTab[o.kind.toNat - 1]? with
  | some (w,r) =>
   if (o.data = [] ∨ .d ∈ r) ∧ (o.version = 0 ∨ .v ∈ r) ∧ (o.flags = 0 ∨ .f ∈ r) then (opArgsT o r).map fun l => joinW (w :: l) else none
  | none => none
 else none
def joinS : List Bs → Bs
 | [] => []
 | [w] => w
 | w :: l => w ++ 32 :: 59 :: 32 :: joinS l
def opsT (l : List Op) : Option Bs :=
 if 1 ≤ l.length ∧ l.length ≤ 4 then (l.mapM opT).map joinS else none
def kindT (n : Int) : Option Bs := if n = 1 then some w_node else if n = 2 then some w_kids else if n = 3 then some w_subtree else none
def argT (s : St) : Ar → Option Bs
 | .a => numT s.a
 | .b => numT s.b
 | .c => numT s.c
 | .p => if s.place.length ≤ 256 then some (placed s.place) else none
 | .k => kindT s.b
 | .o => opsT s.ops
def stT (s : St) : Option Bs :=
 if 1 ≤ s.kind ∧ s.kind ≤ 16 then match stepTab[s.kind.toNat - 1]? with
  | some (w,r) =>
   if (s.a = 0 ∨ .a ∈ r) ∧ (s.b = 0 ∨ .b ∈ r ∨ .k ∈ r) ∧ (s.c = 0 ∨ .c ∈ r) ∧ (s.place = [] ∨ .p ∈ r) ∧ (s.ops = [] ∨ .o ∈ r) then (r.mapM (argT s)).map fun l => joinW (w :: l) else none
  | none => none
 else none
inductive WRes where
 | ok (t : Bs)
 | long
 | bad
 deriving DecidableEq,Inhabited
def rulesT (r : Ru) : Option Bs :=
 ([(w_nodes,r.nodes),(w_clients,r.clients),(w_queue,r.queue),(w_ring,r.ring),(w_window,r.window),(w_lease,r.lease)].mapM fun p => (numT p.2).map fun t => 32 :: (p.1 ++ 32 :: t)).map fun l => w_world ++ l.flatten
def printT (r : Ru) (l : List St) : Option Bs := match rulesT r,l.mapM stT with
 | some a,some b => some (a ++ 10 :: (b.map fun t => t ++ [10]).flatten)
 | _,_ => none
def print (r : Ru) (l : List St) : WRes :=
 if l.length > 400 then .long else match printT r l with
  | none => .bad
  | some t => if t.length > 65536 then .long else .ok t
end Go.Rn
namespace Go.Rn
theorem quo_len : ∀ (n : Nat) (l : Bs),l.length ≤ n → ∀ {w r : Bs},quo l = some (w,r) → r.length < l.length
 | _,[],_,w,r,h => by rw [quo_nil] at h;cases h
 | 0,_ :: _,hn,w,r,h => by simp at hn
 | n + 1,c :: l,hn,w,r,h => by
  rw [quo_cons] at h
  split at h
  ·cases h;simp
  ·split at h
   ·cases h
   ·split at h
    ·obtain ⟨p,hp,hf⟩ := Option.map_eq_some_iff.1 h
     cases hf
     have := quo_len n l (by simp at hn;omega) (w := p.1) (r := p.2) hp
     simp;omega
    ·split at h
     ·cases h
     ·rename_i e r1
      split at h
      ·obtain ⟨p,hp,hf⟩ := Option.map_eq_some_iff.1 h
       cases hf
       have := quo_len n r1 (by simp at hn;omega) (w := p.1) (r := p.2) hp
       simp;omega
      ·split at h
       ·obtain ⟨p,hp,hf⟩ := Option.map_eq_some_iff.1 h
        cases hf
        have := quo_len n r1 (by simp at hn;omega) (w := p.1) (r := p.2) hp
        simp;omega
       ·split at h
        ·split at h
         ·rename_i a b r2
          split at h
          ·obtain ⟨p,hp,hf⟩ := Option.map_eq_some_iff.1 h
           cases hf
           have := quo_len n r2 (by simp at hn;omega) (w := p.1) (r := p.2) hp
           simp;omega
          ·cases h
         ·cases h
        ·cases h
theorem drop_len (p : UInt8 → Bool) (l : Bs) : (l.dropWhile p).length ≤ l.length := by
 have := congrArg List.length (List.takeWhile_append_dropWhile (p := p) (l := l))
 rw [List.length_append] at this;omega
theorem drop_len1 (p : UInt8 → Bool) (c : UInt8) (l : Bs) (hc : p c = true) : ((c :: l).dropWhile p).length < (c :: l).length := by
 rw [List.dropWhile_cons_of_pos hc]
 have := drop_len p l
 simp;omega
theorem take_drop_len (p : UInt8 → Bool) (l : Bs) : (l.takeWhile p).length + (l.dropWhile p).length = l.length := by
 have := congrArg List.length (List.takeWhile_append_dropWhile (p := p) (l := l))
 rw [List.length_append] at this;omega
theorem one_len {l : Bs} {t : Tok} {r : Bs} (h : one l = some (t,r)) : r.length < l.length := by
 unfold one at h
 split at h
 ·cases h
 ·rename_i c l
  split at h
  ·rename_i hc
   split at h
   ·cases h
   ·cases h;exact drop_len1 small c l hc
  ·split at h
   ·obtain ⟨p,hp,hf⟩ := Option.map_eq_some_iff.1 h
    cases hf
    unfold numeral at hp
    have hl1 : ((if ((c :: l).head? == some 45) = true then (c :: l).tail else c :: l) : Bs).length ≤ (c :: l).length := by split <;> simp
    generalize (if ((c :: l).head? == some 45) = true then (c :: l).tail else c :: l) = l1 at hp hl1
    unfold numeral1 at hp
    split at hp
    ·cases hp
    ·rename_i h1
     split at hp
     ·cases hp
     ·cases hp
      have htd := take_drop_len digit l1
      simp only [Bool.or_eq_true,not_or,beq_iff_eq] at h1
      have := h1.1.1.1
      simp only
      omega
   ·split at h
    ·rename_i hc
     cases h
     exact drop_len1 bare c l (by subst hc;decide)
    ·split at h
     ·obtain ⟨p,hp,hf⟩ := Option.map_eq_some_iff.1 h
      cases hf
      have := quo_len l.length l (Nat.le_refl _) (w := p.1) (r := p.2) hp
      simp;omega
     ·cases h
theorem lexN_fuel : ∀ (n m : Nat) (l : Bs),l.length ≤ n → l.length ≤ m → lexN n l = lexN m l
 | n,m,[],_,_ => by cases n <;> cases m <;> rfl
 | 0,_,_ :: _,h,_ => by simp at h
 | _,0,_ :: _,_,h => by simp at h
 | n + 1,m + 1,c :: l,hn,hm => by
  simp at hn hm
  unfold lexN
  rw [lexN_fuel n m l (by omega) (by omega)]
  split
  ·rfl
  ·split
   ·rfl
   ·split
    ·rfl
    ·split
     ·rename_i t r1 h1
      have := one_len h1
      simp at this
      rw [lexN_fuel n m r1 (by omega) (by omega)]
     ·rfl
@[simp] theorem lex_nil : lex [] = some [] := rfl
theorem lex_blank {c : UInt8} {r : Bs} (h : blank c = true) : lex (c :: r) = lex r := by
 unfold lex
 rw [List.length_cons,lexN,if_pos h]
theorem lex_hash {r : Bs} : lex (35 :: r) = some [] := by
 unfold lex
 rw [List.length_cons,lexN,if_neg (by decide),if_pos rfl]
theorem lex_semi {r : Bs} : lex (59 :: r) = (lex r).map fun l => .semi :: l := by
 unfold lex
 rw [List.length_cons,lexN,if_neg (by decide),if_neg (by decide),if_pos rfl]
theorem lex_one {c : UInt8} {r : Bs} (h1 : blank c = false) (h2 : c ≠ 35) (h3 : c ≠ 59) : lex (c :: r) = match one (c :: r) with
  | some (t,r1) => (lex r1).map fun l => t :: l
  | none => none := by
 unfold lex
 rw [List.length_cons,lexN,if_neg (by simp [h1]),if_neg h2,if_neg h3]
 cases h : one (c :: r) with
 | none => rfl
 | some q =>
  obtain ⟨t,r1⟩ := q
  have := one_len h
  simp at this
  simp only
  rw [lexN_fuel r.length r1.length r1 (by omega) (Nat.le_refl _)]
def Sep : Bs → Prop
 | [] => True
 | c :: _ => c = 32
theorem sep_nil : Sep [] := trivial
theorem sep_cons (r : Bs) : Sep (32 :: r) := rfl
theorem span_of {p : UInt8 → Bool} {w r : Bs} (hw : w.all p = true) (hr : ∀ c,r.head? = some c → p c = false) : (w ++ r).takeWhile p = w ∧ (w ++ r).dropWhile p = r := by
 induction w with
 | nil =>
  cases r with
  | nil => simp
  | cons c r => simp [hr c rfl]
 | cons c w ih =>
  simp only [List.all_cons,Bool.and_eq_true] at hw
  simp only [List.cons_append,List.takeWhile_cons,List.dropWhile_cons,hw.1,if_true]
  exact ⟨by rw [(ih hw.2).1],(ih hw.2).2⟩
theorem sep_head {p : UInt8 → Bool} (hp : p 32 = false) {r : Bs} (hs : Sep r) : ∀ c,r.head? = some c → p c = false := by
 intro c hc
 cases r with
 | nil => cases hc
 | cons d r => cases hc;cases hs;exact hp
def LexW (w : Bs) (t : Tok) : Prop := ∀ r,Sep r → lex (w ++ r) = (lex r).map fun l => t :: l
theorem lexW_of {w : Bs} {t : Tok} (c : UInt8) (w' : Bs) (hw : w = c :: w') (h1 : blank c = false) (h2 : c ≠ 35) (h3 : c ≠ 59) (ho : ∀ r,Sep r → one (w ++ r) = some (t,r)) : LexW w t := by
 intro r hr
 have := ho r hr
 rw [hw] at this ⊢
 rw [List.cons_append] at this ⊢
 rw [lex_one h1 h2 h3,this]
theorem lexW_name {c : UInt8} {w : Bs} (h : (c :: w).all small = true) : LexW (c :: w) (.name (c :: w)) := by
 have hc : small c = true := by simp at h;exact h.1
 have hcb : ∀ c,small c = true → blank c = false ∧ c ≠ 35 ∧ c ≠ 59 := u8 (by decide +kernel)
 obtain ⟨b1,b2,b3⟩ := hcb c hc
 refine lexW_of c w rfl b1 b2 b3 fun r hr => ?_
 obtain ⟨s1,s2⟩ := span_of h (sep_head (p := small) (by decide) hr)
 rw [List.cons_append] at s1 s2 ⊢
 unfold one
 simp only [hc,if_true]
 rw [s1,s2]
 have hd : r.head?.any digit = false := by
  cases r with
  | nil => rfl
  | cons d r => cases hr;rfl
 rw [hd];simp
theorem lexW_place {s : Bs} (h1 : s.head? = some 47) (h2 : s.all bare = true) : LexW s (.place s) := by
 cases s with
 | nil => cases h1
 | cons c w =>
  simp at h1;subst h1
  refine lexW_of 47 w rfl (by decide) (by decide) (by decide) fun r hr => ?_
  obtain ⟨s1,s2⟩ := span_of h2 (sep_head (p := bare) (by decide) hr)
  rw [List.cons_append] at s1 s2 ⊢
  unfold one
  simp only [s1,s2]
  rfl
theorem quo_quoteB (c : UInt8) (r w t : Bs) (h : quo r = some (w,t)) : quo (quoteB c ++ r) = some (c :: w,t) := by
 unfold quoteB
 split
 ·rename_i hc
  show quo (92 :: c :: r) = _
  rw [quo_cons,if_neg (by decide),if_neg (by decide),if_neg (by decide)]
  simp only []
  rw [if_pos hc,h];rfl
 ·rename_i hc
  split
  ·rename_i hc2
   subst hc2
   show quo (92 :: 110 :: r) = _
   rw [quo_cons,if_neg (by decide),if_neg (by decide),if_neg (by decide)]
   simp only []
   rw [if_neg (by decide),if_pos trivial,h];rfl
  ·rename_i hc2
   split
   ·rename_i hc3
    show quo (92 :: 120 :: hexD (c.toNat / 16) :: hexD (c.toNat % 16) :: r) = _
    have hx : ∀ c : UInt8,hex (hexD (c.toNat / 16)) = some (UInt8.ofNat (c.toNat / 16)) ∧ hex (hexD (c.toNat % 16)) = some (UInt8.ofNat (c.toNat % 16)) ∧ 16 * UInt8.ofNat (c.toNat / 16) + UInt8.ofNat (c.toNat % 16) = c := u8 (by decide +kernel)
    obtain ⟨x1,x2,x3⟩ := hx c
    rw [quo_cons,if_neg (by decide),if_neg (by decide),if_neg (by decide)]
    simp only []
    rw [if_neg (by decide),if_neg (by decide),if_pos trivial,x1,x2]
    simp only []
    rw [h,x3];rfl
   ·rename_i hc3
    show quo (c :: r) = _
    have hcc : ∀ c : UInt8,¬ (c = 34 || c = 92) = true → ¬ (c < 32 || c > 126) = true → c ≠ 34 ∧ (c < 32 || c = 127) = false ∧ c ≠ 92 := u8 (by decide +kernel)
    obtain ⟨y1,y2,y3⟩ := hcc c hc hc3
    rw [quo_cons,if_neg y1,y2,if_neg (by decide),if_pos y3,h]
    rfl
theorem quo_quote : ∀ (s r : Bs),quo (s.flatMap quoteB ++ 34 :: r) = some (s,r)
 | [],r => by show quo (34 :: r) = _;rw [quo_cons,if_pos rfl]
 | c :: s,r => by
  rw [List.flatMap_cons,List.append_assoc]
  exact quo_quoteB c _ s r (quo_quote s r)
theorem lexW_quote (s : Bs) : LexW (quote s) (.quoted s) := by
 refine lexW_of 34 (s.flatMap quoteB ++ [34]) rfl (by decide) (by decide) (by decide) fun r hr => ?_
 unfold quote
 rw [List.cons_append,List.append_assoc]
 unfold one
 simp only [show small 34 = false by decide,show (digit 34 || (34 : UInt8) = 45) = false by decide,Bool.false_eq_true,if_false,show (34 : UInt8) ≠ 47 by decide,if_true]
 rw [show [34] ++ r = 34 :: r from rfl,quo_quote]
 rfl
theorem lexW_placed (s : Bs) : LexW (placed s) (if s.head? = some 47 ∧ s.all bare = true then .place s else .quoted s) := by
 unfold placed
 split
 ·rename_i h;exact lexW_place h.1 h.2
 ·exact lexW_quote s
theorem natOf_append (d : Bs) (c : UInt8) : natOf (d ++ [c]) = 10 * natOf d + (c.toNat - 48) := by simp [natOf]
theorem dec_digit (k : Nat) (h : k < 10) : digit (UInt8.ofNat (48 + k)) = true ∧ (UInt8.ofNat (48 + k)).toNat - 48 = k := by
 have : ∀ k : Fin 10,digit (UInt8.ofNat (48 + k.val)) = true ∧ (UInt8.ofNat (48 + k.val)).toNat - 48 = k.val := by decide +kernel
 exact this ⟨k,h⟩
theorem dec_spec (u : Nat) : natOf (Lib.decDigits u) = u ∧ (Lib.decDigits u).all digit = true ∧ (Lib.decDigits u ≠ []) ∧ ((Lib.decDigits u).head? = some 48 → u = 0) := by
 induction u using Nat.strongRecOn with
 | _ u ih =>
  by_cases h : u < 10
  ·rw [Lib.decDigits,dif_pos h]
   obtain ⟨d1,d2⟩ := dec_digit u h
   refine ⟨by show 10 * 0 + _ = u;rw [d2];omega,by rw [List.all_cons,d1];rfl,by simp,fun he => ?_⟩
   rw [List.head?_cons] at he
   have he := Option.some.inj he
   have : ∀ k : Fin 10,UInt8.ofNat (48 + k.val) = 48 → k.val = 0 := by decide +kernel
   exact this ⟨u,h⟩ he
  ·rw [Lib.decDigits,dif_neg h]
   obtain ⟨i1,i2,i3,i4⟩ := ih (u / 10) (by omega)
   obtain ⟨d1,d2⟩ := dec_digit (u % 10) (by omega)
   refine ⟨by rw [natOf_append,i1,d2];omega,by rw [List.all_append,i2,List.all_cons,d1];rfl,by simp,fun he => ?_⟩
   have := i4 (by cases hq : Lib.decDigits (u / 10) with
    | nil => exact absurd hq i3
    | cons c r => rw [hq] at he;simpa using he)
   omega
theorem dec_len (u : Nat) (h : u ≤ 2147483647) : (Lib.decDigits u).length ≤ 10 := by
 rw [Lib.decDigits_length]
 rcases Nat.lt_or_ge 10 (Lib.nDigits u) with h2 | h2
 ·have key : ∀ (k u : Nat),u < 10 ^ (k + 1) → Lib.nDigits u ≤ k + 1 := by
   intro k
   induction k with
   | zero => intro u hu;rw [Lib.nDigits_small (by simpa using hu)];exact Nat.le_refl _
   | succ k ih =>
    intro u hu
    by_cases h : u < 10
    ·rw [Lib.nDigits_small h];omega
    ·rw [Lib.nDigits_big h]
     have := ih (u / 10) (by rw [Nat.pow_succ] at hu;omega)
     omega
  have := key 9 u (by omega)
  omega
 ·exact h2
theorem dec_len1 (u : Nat) (h : u < 10) : (Lib.decDigits u).length = 1 := by rw [Lib.decDigits_length,Lib.nDigits_small h]
theorem numeral_itoa (n : Int) (h1 : -2147483647 ≤ n) (h2 : n ≤ 2147483647) (r : Bs) (hr : Sep r) : numeral (Lib.itoa n ++ r) = some (n,r) := by
 have key : ∀ (u : Nat) (m : Bool),u ≤ 2147483647 → (m = true → 0 < u) → numeral ((if m = true then [45] else []) ++ (Lib.decDigits u ++ r)) = some (if m = true then -(u : Int) else u,r) := by
  intro u m hu hm
  obtain ⟨i1,i2,i3,i4⟩ := dec_spec u
  obtain ⟨s1,s2⟩ := span_of i2 (sep_head (p := digit) (by decide) hr)
  have hl := dec_len u hu
  have hsm : r.head?.any small = false := by
   cases r with
   | nil => rfl
   | cons d r => cases hr;rfl
  have hh : (((if m = true then [45] else []) ++ (Lib.decDigits u ++ r) : Bs).head? == some 45) = m := by
   cases m with
   | true => rfl
   | false =>
    simp only [Bool.false_eq_true,if_false,List.nil_append]
    cases hd : Lib.decDigits u with
    | nil => exact absurd hd i3
    | cons c w =>
     rw [hd] at i2
     simp only [List.all_cons,Bool.and_eq_true] at i2
     have : ∀ c : UInt8,digit c = true → (some c == some 45) = false := u8 (by decide +kernel)
     exact this c i2.1
  have htl : (if m = true then ((if m = true then [45] else []) ++ (Lib.decDigits u ++ r) : Bs).tail else ((if m = true then [45] else []) ++ (Lib.decDigits u ++ r))) = Lib.decDigits u ++ r := by cases m <;> rfl
  unfold numeral
  rw [hh,htl]
  unfold numeral1
  simp only [s1,s2,i1]
  have hz : ((Lib.decDigits u).length == 0) = false := by
   cases hd : Lib.decDigits u with
   | nil => exact absurd hd i3
   | cons c w => rfl
  have hlead : ((Lib.decDigits u).head? == some 48 && (decide ((Lib.decDigits u).length > 1) || m)) = false := by
   cases hq : ((Lib.decDigits u).head? == some 48) with
   | false => rfl
   | true =>
    have hu0 := i4 (by simpa using hq)
    subst hu0
    have := dec_len1 0 (by omega)
    rw [this]
    cases m with
    | true => exact absurd (hm rfl) (by omega)
    | false => rfl
  rw [hz,hlead,hsm]
  simp only [show decide ((Lib.decDigits u).length > 10) = false by simpa using hl,Bool.or_self,Bool.false_eq_true,if_false]
  rw [if_neg (by omega)]
 by_cases hn : n < 0
 ·have e : n = -(n.natAbs : Int) := by omega
  have := key n.natAbs true (by omega) (fun _ => by omega)
  unfold Lib.itoa
  rw [if_pos hn]
  simp only [if_true] at this
  rw [← e] at this
  simpa using this
 ·have e : n = (n.toNat : Int) := by omega
  have := key n.toNat false (by omega) (fun h => by cases h)
  unfold Lib.itoa
  rw [if_neg hn]
  simp only [Bool.false_eq_true,if_false,List.nil_append] at this
  rw [← e] at this
  exact this
theorem itoa_head (n : Int) : ∃ c w,Lib.itoa n = c :: w ∧ (digit c || c = 45) = true := by
 unfold Lib.itoa
 split
 ·exact ⟨45,_,rfl,by decide⟩
 ·obtain ⟨_,i2,i3,_⟩ := dec_spec n.toNat
  cases hd : Lib.decDigits n.toNat with
  | nil => exact absurd hd i3
  | cons c w =>
   rw [hd] at i2
   simp only [List.all_cons,Bool.and_eq_true] at i2
   exact ⟨c,w,rfl,by simp [i2.1]⟩
theorem lexW_num {n : Int} (h1 : -2147483647 ≤ n) (h2 : n ≤ 2147483647) : LexW (Lib.itoa n) (.num n) := by
 obtain ⟨c,w,hw,hc⟩ := itoa_head n
 have hcb : ∀ c : UInt8,(digit c || c = 45) = true → blank c = false ∧ c ≠ 35 ∧ c ≠ 59 ∧ small c = false := u8 (by decide +kernel)
 obtain ⟨b1,b2,b3,b4⟩ := hcb c hc
 refine lexW_of c w hw b1 b2 b3 fun r hr => ?_
 have := numeral_itoa n h1 h2 r hr
 rw [hw] at this ⊢
 rw [List.cons_append] at this ⊢
 unfold one
 simp only [b4,hc,Bool.false_eq_true,if_false,if_true,this]
 rfl
theorem numT_some {n : Int} {t : Bs} (h : numT n = some t) : -2147483647 ≤ n ∧ n ≤ 2147483647 ∧ t = Lib.itoa n := by
 unfold numT at h
 split at h
 ·rename_i hc;cases h;exact ⟨hc.1,hc.2,rfl⟩
 ·cases h
theorem mapM_mem {α β : Type} {f : α → Option β} : ∀ {l : List α} {m : List β},l.mapM f = some m → ∀ y ∈ m,∃ x ∈ l,f x = some y
 | [],m,h,y,hy => by cases h;cases hy
 | a :: l,m,h,y,hy => by
  rw [List.mapM_cons] at h
  cases ha : f a with
  | none => rw [ha] at h;cases h
  | some b =>
   rw [ha] at h
   cases hl : l.mapM f with
   | none => rw [hl] at h;cases h
   | some m2 =>
    rw [hl] at h
    cases h
    rcases List.mem_cons.1 hy with rfl | hy
    ·exact ⟨a,by simp,ha⟩
    ·obtain ⟨x,hx,hf⟩ := mapM_mem hl y hy
     exact ⟨x,by simp [hx],hf⟩
end Go.Rn
namespace Go.Rn
theorem pOps_len : ∀ {n : Nat} {t : List Tok} {l : List Op},pOps n t = some l → l.length ≤ n
 | 0,_,_,h => by simp [pOps] at h
 | n + 1,t,l,h => by
  rw [pOps] at h
  split at h
  ·cases h;simp
  ·obtain ⟨m,hm,rfl⟩ := Option.map_eq_some_iff.1 h
   have := pOps_len hm
   simp;omega
  ·cases h
theorem pArg_ops {y : Ar} {s s1 : St} {t t1 : List Tok} (h : pArg y s t = some (s1,t1)) (hs : s.ops.length ≤ 4) : s1.ops.length ≤ 4 := by
 cases y <;> simp only [pArg] at h <;> obtain ⟨q,hq,e⟩ := Option.map_eq_some_iff.1 h <;> injection e with e1 e2 <;> subst e1 <;> first
  | exact hs
  | exact pOps_len hq
theorem pArgs_ops : ∀ {l : List Ar} {s s1 : St} {t t1 : List Tok},pArgs l s t = some (s1,t1) → s.ops.length ≤ 4 → s1.ops.length ≤ 4
 | [],_,_,_,_,h,hs => by cases h;exact hs
 | y :: l,s,s1,t,t1,h,hs => by
  rw [pArgs] at h
  split at h
  ·rename_i s2 t2 e
   exact pArgs_ops h (pArg_ops e hs)
  ·cases h
theorem pStep_ops {t : List Tok} {s : St} (h : pStep t = some s) : s.ops.length ≤ 4 := by
 unfold pStep at h
 split at h
 ·split at h
  ·split at h
   ·rename_i e
    cases h
    exact pArgs_ops e (Nat.zero_le _)
   ·cases h
  ·cases h
 ·cases h
theorem pLines_len : ∀ {ls : List Bs} {row : Nat} {bg : Option Ru} {acc : List St} {r : Ru} {l : List St},pLines ls row bg acc = .ok r l → acc.length ≤ 400 → (∀ s ∈ acc,s.ops.length ≤ 4) → l.length ≤ 400 ∧ ∀ s ∈ l,s.ops.length ≤ 4
 | [],_,none,_,_,_,h,_,_ => by simp [pLines] at h
 | [],_,some _,acc,_,_,h,h1,h2 => by simp only [pLines,PRes.ok.injEq] at h;rw [← h.2];exact ⟨h1,h2⟩
 | x :: ls,row,bg,acc,r,l,h,h1,h2 => by
  rw [pLines] at h
  split at h
  ·cases h
  ·exact pLines_len h h1 h2
  ·cases bg with
   | none =>
    dsimp only at h
    split at h
    ·cases h
    ·exact pLines_len h h1 h2
   | some b =>
    dsimp only at h
    split at h
    ·cases h
    ·rename_i s e
     split at h
     ·cases h
     ·refine pLines_len h (by simp;omega) fun q hq => ?_
      rcases List.mem_append.1 hq with hq | hq
      ·exact h2 q hq
      ·simp at hq;subst hq;exact pStep_ops e
theorem parse_len {t : Bs} {r : Ru} {l : List St} (h : parse t = .ok r l) : l.length ≤ 400 ∧ ∀ s ∈ l,s.ops.length ≤ 4 := by
 unfold parse at h
 split at h
 ·cases h
 ·exact pLines_len h (Nat.zero_le _) fun _ h => by cases h
def fixT : Bs := [119,111,114,108,100,32,110,111,100,101,115,32,50,32,99,108,105,101,110,116,115,32,49,32,113,117,101,117,101,32,52,32,114,105,110,103,32,49,54,32,119,105,110,100,111,119,32,50,32,108,101,97,115,101,32,48,10,116,105,99,107,32,49]
def fixR : Ru := ⟨2,1,4,16,2,0⟩
def fixS : St := { kind := 5,a := 1 }
theorem fix_parse : parse fixT = .ok fixR [fixS] := by decide +kernel
theorem fix_print : print fixR [fixS] = .ok (fixT ++ [10]) := by decide +kernel
theorem x_parse : parse [120] = .bad 1 := by decide +kernel
end Go.Rn
