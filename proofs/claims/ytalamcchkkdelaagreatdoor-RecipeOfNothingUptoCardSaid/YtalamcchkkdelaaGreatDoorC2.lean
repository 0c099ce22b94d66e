/- Texts of the proofs over heraldlaw20, put together by a program (merge20.py): Ev2. -/
import Derived.Test.YtalamcchkkdelaaGreatDoorC1
import Derived.Laws.StructEq
import Derived.Laws.BytesString
set_option linter.unusedVariables false
set_option linter.unusedSimpArgs false
namespace Go.Ev
inductive Cv where
 | int (k : IntKind)
 | same
 | toBytes
 | toString
 deriving Inhabited
inductive CK where
 | int | str | bool
 deriving Inhabited
inductive EK where
 | bool | ptr | slice | map | func
 deriving Inhabited
inductive AOp where
 | mv (x : Operand)
 | pick (c a b : Operand)
 | alloc (zero : List Value)
 | box (x : Operand)
 | build (zero : List Value) (parts : List (Nat × Nat × Operand))
 | mkSlice (es len : Nat) (zero : List Value) (parts : List (Nat × Nat × Operand))
 | load1 (a : Operand)
 | loadN (n : Nat) (a : Operand)
 | store (n : Nat) (a x : Operand)
 | nilCheck (x : Operand)
 | bin (op : BinOp) (x y : Operand)
 | eqNil (k : EK) (neg : Bool) (x y : Operand)
 | eqNilI (neg : Bool) (x : Operand)
 | eqAgg (neg : Bool) (ks : List CK) (x y : Operand)
 | un (op : UnOp) (x : Operand)
 | conv (c : Cv) (x : Operand)
 | func (fn : Fn) (first captured : List Operand)
 | mkMap
 | makeSlice (es bytes : Nat) (zero : List Value) (l c : Operand)
 | slice (size : Nat) (x : Operand) (lo hi : Option Operand)
 | sliceStr (x : Operand) (lo hi : Option Operand)
 | fieldAddr (x : Operand) (off : Nat)
 | field (x : Operand) (off : Nat) (n : Option Nat)
 | indexAddr (size : Nat) (x i : Operand)
 | indexStr (x i : Operand)
 | lookup (ck : CK) (zero : Value) (x k : Operand) (ok : Bool)
 | mapUpd (ck : CK) (m k v : Operand)
 | extract (x : Operand) (i : Nat)
 | lenStr (x : Operand)
 | lenSlice (x : Operand)
 | lenMap (x : Operand)
 | append (str : Bool) (es bytes : Nat) (s x : Operand)
 | copy (str : Bool) (es : Nat) (d s : Operand)
 | delete (ck : CK) (m k : Operand)
 | clear (zero : List Value) (x : Operand)
 | minmax (isMax : Bool) (x y : Operand)
 | mkIface (t : TypeId) (x : Operand)
 | indexAddrA (size n : Nat) (x i : Operand)
 | indexA (size n : Nat) (row : Bool) (x i : Operand)
 | rangeStr (x : Operand)
 | nextStr (x : Operand)
 deriving Inhabited
def intBin : BinOp → IntKind → Int → Int → Option Value
 | .add,k,a,b => some (.int k (k.wrap (a + b)))
 | .sub,k,a,b => some (.int k (k.wrap (a - b)))
 | .mul,k,a,b => some (.int k (k.wrap (a * b)))
 | .quo,k,a,b => if b = 0 then none else some (.int k (k.wrap (a.tdiv b)))
 | .rem,k,a,b => if b = 0 then none else some (.int k (a.tmod b))
 | .and,k,a,b => some (.int k (k.wrap (BitVec.ofInt k.bits a &&& BitVec.ofInt k.bits b).toNat))
 | .or,k,a,b => some (.int k (k.wrap (BitVec.ofInt k.bits a ||| BitVec.ofInt k.bits b).toNat))
 | .xor,k,a,b => some (.int k (k.wrap (BitVec.ofInt k.bits a ^^^ BitVec.ofInt k.bits b).toNat))
 | .andNot,k,a,b => some (.int k (k.wrap (BitVec.ofInt k.bits a &&& ~~~ BitVec.ofInt k.bits b).toNat))
 | .eql,_,a,b => some (.bool (a == b))
 | .neq,_,a,b => some (.bool (a != b))
 | .lss,_,a,b => some (.bool (a < b))
 | .leq,_,a,b => some (.bool (a ≤ b))
 | .gtr,_,a,b => some (.bool (a > b))
 | .geq,_,a,b => some (.bool (a ≥ b))
 | _,_,_,_ => none
def intShift : BinOp → IntKind → Int → Int → Option Value
 | .shl,k,a,b => if b < 0 then none else some (.int k (k.wrap (a * 2 ^ min b.toNat k.bits)))
 | .shr,k,a,b => if b < 0 then none else some (.int k (a.fdiv (2 ^ min b.toNat k.bits)))
 | _,_,_,_ => none
def strBin : BinOp → ByteArray → ByteArray → Option Value
 | .add,x,y => if ((x.size + y.size : Nat) : Int) > 9223372036854775807 then none else some (.string (x ++ y))
 | .eql,x,y => some (.bool (x == y))
 | .neq,x,y => some (.bool (x != y))
 | .lss,x,y => some (.bool (Op.bytesLess x.toList y.toList))
 | .leq,x,y => some (.bool (Op.bytesLess x.toList y.toList || x == y))
 | .gtr,x,y => some (.bool !(Op.bytesLess x.toList y.toList || x == y))
 | .geq,x,y => some (.bool !Op.bytesLess x.toList y.toList)
 | _,_,_ => none
def nilEq : EK → Value → Value → Option Bool
 | .bool,.bool a,.bool b => some (a == b)
 | .ptr,.pointer none,.pointer b => some b.isNone
 | .ptr,.pointer (some _),.pointer none => some false
 | .slice,.slice none _ _,.slice b _ _ => some b.isNone
 | .slice,.slice (some _) _ _,.slice none _ _ => some false
 | .map,.map none,.map b => some b.isNone
 | .map,.map (some _),.map none => some false
 | .func,.nilFunc,.nilFunc => some true
 | .func,.nilFunc,.func _ _ _ => some false
 | .func,.func _ _ _,.nilFunc => some false
 | _,_,_ => none
def isNilI : Value → Option Bool
 | .nilIface => some true
 | .iface _ _ => some false
 | _ => none
def aBin (op : BinOp) (x y : Value) : Option Value :=
 match x,y with
 | .int k a,.int k' b =>
  match op with
  | .shl => intShift .shl k a b
  | .shr => intShift .shr k a b
  | op => if k = k' then intBin op k a b else none
 | .string a,.string b => strBin op a b
 | _,_ => none
def cellEq : CK → Value → Value → Option Bool
 | .int,.int k a,.int k' b => if k = k' then some (a == b) else none
 | .str,.string a,.string b => some (a == b)
 | .bool,.bool a,.bool b => some (a == b)
 | _,_,_ => none
def cellsEq : List CK → List Value → List Value → Option Bool
 | [],[],[] => some true
 | k :: ks,x :: xs,y :: ys =>
  match cellEq k x y,cellsEq ks xs ys with
  | some a,some b => some (a && b)
  | _,_ => none
 | _,_,_ => none
def aUn (op : UnOp) (x : Value) : Option Value :=
 match op,x with
 | .neg,.int k n => some (.int k (k.wrap (0 - n)))
 | .not,.bool b => some (.bool !b)
 | _,_ => none
def strOf : List Value → Option (List UInt8)
 | [] => some []
 | .int .u8 n :: r => (strOf r).map fun l => UInt8.ofNat n.toNat :: l
 | _ => none
def bytesOf (s : ByteArray) : List Value := s.data.toList.map fun b => .int .u8 b.toNat
def fillL : List Value → List (Nat × List Value) → Option (List Value)
 | cs,[] => some cs
 | cs,(o,vs) :: r => if o + vs.length ≤ cs.length then fillL (cs.take o ++ vs ++ cs.drop (o + vs.length)) r else none
def partsOf (s : Env) : List (Nat × Nat × Operand) → Option (List (Nat × List Value))
 | [] => some []
 | (o,n,x) :: r =>
  match vcells (aeval s x),partsOf s r with
  | some vs,some l => if vs.length = n then some ((o,vs) :: l) else none
  | _,_ => none
def one? : List Value → Option Value
 | [v] => some v
 | _ => none
def keyEq : Value → Value → Option Bool
 | .int k a,.int k' b => if k = k' then some (a == b) else none
 | .string a,.string b => some (a == b)
 | .bool a,.bool b => some (a == b)
 | _,_ => none
def findM (k : Value) : List (Value × Value) → Nat → Option (Option (Nat × Value))
 | [],_ => some none
 | e :: es,i =>
  match keyEq k e.1 with
  | some true => some (some (i,e.2))
  | some false => findM k es (i + 1)
  | none => none
def isKey : CK → Value → Bool
 | .int,.int _ _ | .str,.string _ | .bool,.bool _ => true
 | _,_ => false
def isText : Value → Bool
 | .string _ => true
 | _ => false
def entriesOf (h : H) : Value → Option (List (Value × Value))
 | .map none => some []
 | .map (some b) => match h[b]? with
  | some (.map es _) => some es
  | _ => none
 | _ => none
def newRow (h : H) (cs : List Value) (es : Nat) (anc : List Nat) : H := h.push (.cells cs es true anc)
def srcOf (h : H) (es : Nat) : Value → Option (Nat × List Value)
 | .slice none 0 0 => some (0,[])
 | .slice (some ⟨b,o,none⟩) n _ => if n = 0 then some (0,[]) else (rd h b o (n * es)).map fun l => (n,l)
 | .slice (some ⟨_,_,some _⟩) 0 0 => some (0,[])
 | .string s => if es = 1 then some (s.size,bytesOf s) else none
 | _ => none
def appendTo (h : H) (es bytes : Nat) (s : Value) (n : Nat) (new : List Value) : Option (Value × H) :=
 match s with
 | .slice none 0 0 =>
  if n = 0 then some (s,h)
  else if n * bytes ≤ 2 ^ 47 then some (.slice (some ⟨h.size,0,none⟩) n n,newRow h new es [])
  else none
 | .slice (some ⟨b,o,none⟩) len cap =>
  if n = 0 then some (s,h)
  else if len + n ≤ cap then
   match wr h b (o + len * es) new with
   | some h' => some (.slice (some ⟨b,o,none⟩) (len + n) cap,h')
   | none => none
  else if (len + n) * bytes ≤ 2 ^ 47 then
   match h[b]? with
   | some (.cells cs es' true anc) =>
    if es' = es ∧ o + cap * es ≤ cs.length then
     let old := (cs.drop o).take (len * es)
     if o + len * es = cs.length then
      some (.slice (some ⟨h.size,0,none⟩) (len + n) (len + n),newRow (h.setIfInBounds b (.cells cs es false anc)) (old ++ new) es (b :: anc))
     else some (.slice (some ⟨h.size,0,none⟩) (len + n) (len + n),newRow (kill h (b :: anc)) (old ++ new) es [])
    else none
   | _ => none
  else none
 | _ => none
def optInt : Option Value → Nat → Option Nat
 | none,d => some d
 | some (.int _ i),_ => if 0 ≤ i then some i.toNat else none
 | _,_ => none
def evOp (ao : AOp) (s : Env) (h : H) : Option (Value × H) :=
 match ao with
 | .mv x => some (aeval s x,h)
 | .pick c a b => match aeval s c with
  | .bool t => some (bif t then aeval s a else aeval s b,h)
  | _ => none
 | .alloc z => some (.pointer (some ⟨h.size,0,none⟩),newRow h z 0 [])
 | .box x => (vcells (aeval s x)).map fun l => (.pointer (some ⟨h.size,0,none⟩),newRow h l 0 [])
 | .build z ps => match partsOf s ps with
  | some l => (fillL z l).map fun c => (.agg ⟨c⟩,h)
  | none => none
 | .mkSlice es len z ps => match partsOf s ps with
  | some l => (fillL z l).map fun c => (.slice (some ⟨h.size,0,none⟩) len len,newRow h c es [])
  | none => none
 | .load1 a => match aeval s a with
  | .pointer (some ⟨b,o,none⟩) => ((rd h b o 1).bind one?).map fun v => (v,h)
  | _ => none
 | .loadN n a => match aeval s a with
  | .pointer (some ⟨b,o,none⟩) => (rd h b o n).map fun l => (.agg ⟨l⟩,h)
  | _ => none
 | .store n a x => match aeval s a,vcells (aeval s x) with
  | .pointer (some ⟨b,o,none⟩),some l => if l.length = n then (wr h b o l).map fun h' => (junk,h') else none
  | _,_ => none
 | .nilCheck x => match aeval s x with
  | .pointer (some a) => some (.pointer (some a),h)
  | .func (.func f) fs cs => some (.func (.func f) fs cs,h)
  | _ => none
 | .bin op x y => (aBin op (aeval s x) (aeval s y)).map fun v => (v,h)
 | .eqNil k neg x y => (nilEq k (aeval s x) (aeval s y)).map fun r => (.bool (if neg then !r else r),h)
 | .eqNilI neg x => (isNilI (aeval s x)).map fun r => (.bool (if neg then !r else r),h)
 | .eqAgg neg ks x y => match aeval s x,aeval s y with
  | .agg ⟨a⟩,.agg ⟨b⟩ => (cellsEq ks a b).map fun r => (.bool (if neg then !r else r),h)
  | _,_ => none
 | .un op x => (aUn op (aeval s x)).map fun v => (v,h)
 | .conv c x => match c,aeval s x with
  | .int k,.int _ n => some (.int k (k.wrap n),h)
  | .same,.string t => some (.string t,h)
  | .toBytes,.string t => some (.slice (some ⟨h.size,0,none⟩) t.size t.size,newRow h (bytesOf t) 1 [])
  | .toString,.slice none 0 0 => some (.string .empty,h)
  | .toString,.slice (some ⟨b,o,none⟩) n _ => if n = 0 then some (.string .empty,h) else ((rd h b o n).bind strOf).map fun l => (.string ⟨⟨l⟩⟩,h)
  | _,_ => none
 | .func fn fs cs => some (.func fn ⟨fs.map (aeval s)⟩ ⟨cs.map (aeval s)⟩,h)
 | .mkMap => some (.map (some h.size),h.push (.map [] true))
 | .makeSlice es bytes z l c => match aeval s l,aeval s c with
  | .int .i64 n,.int .i64 m =>
   if 0 ≤ n ∧ n ≤ m ∧ m ≤ 9223372036854775807 ∧ bytes * m.toNat ≤ 2 ^ 47 ∧ z.length = es then
    some (.slice (some ⟨h.size,0,none⟩) n.toNat m.toNat,newRow h (List.replicate m.toNat z).flatten es [])
   else none
  | _,_ => none
 | .sliceStr x lo hi => match aeval s x with
  | .string t => match optInt (hi.map (aeval s)) t.size with
   | some q => match optInt (lo.map (aeval s)) 0 with
    | some p => if p ≤ q ∧ q ≤ t.size then some (.string (t.extract p q),h) else none
    | none => none
   | none => none
  | _ => none
 | .slice size x lo hi => match aeval s x with
  | .slice none 0 0 => match optInt (hi.map (aeval s)) 0 with
   | some q => match optInt (lo.map (aeval s)) 0 with
    | some p => if p ≤ q ∧ q ≤ 0 then some (.slice none 0 0,h) else none
    | none => none
   | none => none
  | .slice (some ⟨b,o,none⟩) n c => match optInt (hi.map (aeval s)) n with
   | some q => match optInt (lo.map (aeval s)) 0 with
    | some p => if p ≤ q ∧ q ≤ c then some (.slice (some ⟨b,o + p * size,none⟩) (q - p) (c - p),h) else none
    | none => none
   | none => none
  | _ => none
 | .fieldAddr x off => match aeval s x with
  | .pointer (some ⟨b,o,none⟩) => some (.pointer (some ⟨b,o + off,none⟩),h)
  | _ => none
 | .field x off n => match aeval s x with
  | .agg ⟨l⟩ => match n with
   | none => (l[off]?).map fun v => (v,h)
   | some m => some (.agg ⟨(l.drop off).take m⟩,h)
  | _ => none
 | .indexAddr size x i => match aeval s x,aeval s i with
  | .slice (some ⟨b,o,none⟩) n _,.int _ j => if 0 ≤ j ∧ j < n then some (.pointer (some ⟨b,o + j.toNat * size,none⟩),h) else none
  | _,_ => none
 | .indexStr x i => match aeval s x,aeval s i with
  | .string t,.int _ j => if 0 ≤ j then (t.data[j.toNat]?).map fun c => (.int .u8 c.toNat,h) else none
  | _,_ => none
 | .lookup ck z x k ok => match entriesOf h (aeval s x) with
  | some es => if isKey ck (aeval s k) then match findM (aeval s k) es 0 with
   | some (some (_,v)) => some (if ok then .tuple ⟨[v,.bool true]⟩ else v,h)
   | some none => some (if ok then .tuple ⟨[z,.bool false]⟩ else z,h)
   | none => none
   else none
  | none => none
 | .mapUpd ck m k v => match aeval s m with
  | .map (some b) => match h[b]? with
   | some (.map es true) => if isKey ck (aeval s k) then match findM (aeval s k) es 0 with
    | some (some (i,_)) => some (junk,h.setIfInBounds b (.map (es.set i (aeval s k,aeval s v)) true))
    | some none => some (junk,h.setIfInBounds b (.map (es ++ [(aeval s k,aeval s v)]) true))
    | none => none
    else none
   | _ => none
  | _ => none
 | .extract x i => match aeval s x with
  | .tuple ⟨l⟩ => (l[i]?).map fun v => (v,h)
  | _ => none
 | .lenStr x => match aeval s x with
  | .string t => some (.int .i64 t.size,h)
  | _ => none
 | .lenSlice x => match aeval s x with
  | .slice none 0 0 => some (.int .i64 0,h)
  | .slice (some _) n _ => some (.int .i64 n,h)
  | _ => none
 | .lenMap x => (entriesOf h (aeval s x)).map fun es => (.int .i64 es.length,h)
 | .append str es bytes d x => if isText (aeval s x) = str then match srcOf h es (aeval s x) with
  | some (n,new) => if new.all oneCell then appendTo h es bytes (aeval s d) n new else none
  | none => none
  else none
 | .copy str es d x => if isText (aeval s x) = str then match aeval s d,srcOf h es (aeval s x) with
  | .slice none 0 0,some _ => some (.int .i64 0,h)
  | .slice (some ⟨b,o,none⟩) n _,some (m,new) =>
   if min m n = 0 then some (.int .i64 0,h)
   else if new.all oneCell then (wr h b o (new.take (min m n * es))).map fun h' => (.int .i64 (min m n),h') else none
  | _,_ => none
  else none
 | .delete ck m k => match aeval s m with
  | .map none => if isKey ck (aeval s k) then some (.tuple ⟨[]⟩,h) else none
  | .map (some b) => match h[b]? with
   | some (.map es true) => if isKey ck (aeval s k) then match findM (aeval s k) es 0 with
    | some (some (i,_)) => some (.tuple ⟨[]⟩,h.setIfInBounds b (.map (es.eraseIdx i) true))
    | some none => some (.tuple ⟨[]⟩,h)
    | none => none
    else none
   | _ => none
  | _ => none
 | .clear z x => match aeval s x with
  | .slice none 0 0 => some (.tuple ⟨[]⟩,h)
  | .slice (some ⟨b,o,none⟩) n _ => if n = 0 then some (.tuple ⟨[]⟩,h) else (wr h b o (List.replicate n z).flatten).map fun h' => (.tuple ⟨[]⟩,h')
  | _ => none
 | .minmax isMax x y => match aeval s x,aeval s y with
  | .int k a,.int k' b => if k = k' then some (.int k (if isMax then (if b > a then b else a) else (if b < a then b else a)),h) else none
  | _,_ => none
 | .mkIface t x => some (.iface t (aeval s x),h)
 | .indexAddrA size m x i => match aeval s x,aeval s i with
  | .pointer (some ⟨b,o,none⟩),.int _ j => if 0 ≤ j ∧ j < m then some (.pointer (some ⟨b,o + j.toNat * size,none⟩),h) else none
  | _,_ => none
 | .indexA size m row x i => match aeval s x,aeval s i with
  | .agg ⟨l⟩,.int _ j => if 0 ≤ j ∧ j < m then (if row then some (.agg ⟨(l.drop (j.toNat * size)).take size⟩,h) else (l[j.toNat * size]?).map fun v => (v,h)) else none
  | _,_ => none
 | .rangeStr x => match aeval s x with
  | .string t => some (.pointer (some ⟨h.size,0,none⟩),h.push (.iter t 0))
  | _ => none
 | .nextStr x => match aeval s x with
  | .pointer (some ⟨b,0,none⟩) => match h[b]? with
   | some (.iter t p) => if p < t.size then some (.tuple ⟨[.bool true,.int .i64 p,.int .i32 (Utf8.decode t p).1]⟩,h.setIfInBounds b (.iter t (p + (Utf8.decode t p).2))) else some (.tuple ⟨[.bool false]⟩,h)
   | _ => none
  | _ => none
end Go.Ev
