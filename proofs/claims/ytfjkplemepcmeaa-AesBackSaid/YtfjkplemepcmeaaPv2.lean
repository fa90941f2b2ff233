import Derived.Test.YtfjkplemepcmeaaPv1
import Derived.Laws.Sem
import Derived.Laws.World
import Derived.Laws.Cells
import Derived.Laws.Append
set_option linter.unusedVariables false
set_option linter.unusedSimpArgs false
set_option linter.unusedSectionVars false
/- What an operation does to pure values: 'pop'. -/
namespace Go.Pv

def V.ofVal1 : Value → Option V
  | .bool b => some (.bool b)
  | .int k n => some (.int k n)
  | .string s => some (.str s)
  | .pointer none => some .nilp
  | .slice none 0 0 => some (.sl true true [])
  | .map none => some .nilmap
  | .nilFunc => some .nilf
  | _ => none

def V.ofVals : List Value → Option (List V)
  | [] => some []
  | v :: vs => match V.ofVal1 v, V.ofVals vs with
    | some x, some xs => some (x :: xs)
    | _, _ => none

def V.ofVal : Value → Option V
  | .agg cs => (V.ofVals cs.toList).map V.agg
  | .tuple cs => (V.ofVals cs.toList).map V.tup
  | v => V.ofVal1 v

structure St where
  env : Nat → V
  L : List Obj

def St.ev (s : St) : Operand → V
  | .tmp t => s.env t
  | .const v => (V.ofVal v).getD .undef
  | .func f => .fn f []
  | .global _ => .undef

def upd (e : Nat → V) (t : Nat) (v : V) : Nat → V := fun i => if i = t then v else e i
def St.put (s : St) (dst : Option Tmp) (v : V) : St :=
  match dst with
  | some d => { s with env := upd s.env d v }
  | none => s

def szT (P : Program) (t : TypeId) : Option Nat := (P.info? t).map (·.size)
def byT (P : Program) (t : TypeId) : Nat := ((P.info? t).map (·.bytes)).getD 0
def aggD : TypeDesc → Bool
  | .struct _ | .array _ _ => true
  | _ => false
def aggT (P : Program) (t : TypeId) : Option Bool := (P.underlying t).map aggD
def zeroV (P : Program) (t : TypeId) : Option V := (P.info? t).bind fun i => i.zero.bind V.ofVal

/-! ### numbers -/
def pint (op : BinOp) (k : IntKind) (x y : Int) : Option V :=
  match op with
  | .add => some (.int k (k.wrap (x + y)))
  | .sub => some (.int k (k.wrap (x - y)))
  | .mul => some (.int k (k.wrap (x * y)))
  | .quo => if y = 0 then none else some (.int k (k.wrap (x.tdiv y)))
  | .rem => if y = 0 then none else some (.int k (x.tmod y))
  | .and => some (.int k (k.wrap ((BitVec.ofInt k.bits x &&& BitVec.ofInt k.bits y).toNat : Nat)))
  | .or => some (.int k (k.wrap ((BitVec.ofInt k.bits x ||| BitVec.ofInt k.bits y).toNat : Nat)))
  | .xor => some (.int k (k.wrap ((BitVec.ofInt k.bits x ^^^ BitVec.ofInt k.bits y).toNat : Nat)))
  | .andNot => some (.int k (k.wrap ((BitVec.ofInt k.bits x &&& ~~~(BitVec.ofInt k.bits y)).toNat : Nat)))
  | .eql => some (.bool (decide (x = y)))
  | .neq => some (.bool (!decide (x = y)))
  | .lss => some (.bool (decide (x < y)))
  | .leq => some (.bool (decide (x ≤ y)))
  | .gtr => some (.bool (decide (x > y)))
  | .geq => some (.bool (decide (x ≥ y)))
  | _ => none

def pstr (op : BinOp) (x y : ByteArray) : Option V :=
  match op with
  | .add => if x.size + y.size ≤ 9223372036854775807 then some (.str (x ++ y)) else none
  | .eql => some (.bool (decide (x = y)))
  | .neq => some (.bool (!decide (x = y)))
  | .lss => some (.bool (Op.bytesLess x.toList y.toList))
  | .leq => some (.bool (Op.bytesLess x.toList y.toList || decide (x = y)))
  | .gtr => some (.bool !(Op.bytesLess x.toList y.toList || decide (x = y)))
  | .geq => some (.bool !(Op.bytesLess x.toList y.toList))
  | _ => none

def pshift (op : BinOp) (k : IntKind) (x y : Int) : Option V :=
  if y < 0 then none else
  match op with
  | .shl => some (.int k (k.wrap (x * 2 ^ (min y.toNat k.bits))))
  | .shr => some (.int k (x.fdiv (2 ^ (min y.toNat k.bits))))
  | _ => none

/-- equality of what is no number and no string -/
def peq (P : Program) (t : TypeId) (x y : V) : Option Bool :=
  match P.underlying t, x, y with
  | some .bool, .bool a, .bool b => some (a == b)
  | some (.slice _), .sl true true [], .sl true true [] => some true
  | some (.slice _), .sl true true [], .sl false _ (_ :: _) => some false
  | some (.slice _), .sl false _ (_ :: _), .sl true true [] => some false
  | some (.pointer _), .nilp, .nilp => some true
  | some (.pointer _), .nilp, .ref _ _ => some false
  | some (.pointer _), .ref _ _, .nilp => some false
  | some (.func _ _ _), .nilf, .nilf => some true
  | some (.func _ _ _), .nilf, .fn _ _ => some false
  | some (.func _ _ _), .fn _ _, .nilf => some false
  | _, _, _ => none

def pbin (P : Program) (op : BinOp) (t : TypeId) (x y : V) : Option V :=
  match op, x, y with
  | .shl, .int k a, .int _ b => pshift .shl k a b
  | .shr, .int k a, .int _ b => pshift .shr k a b
  | op, .int k a, .int k' b => if k = k' then pint op k a b else none
  | op, .str a, .str b => pstr op a b
  | .eql, x, y => (peq P t x y).map V.bool
  | .neq, x, y => (peq P t x y).map fun b => V.bool !b
  | _, _, _ => none

def pun (op : UnOp) (x : V) : Option V :=
  match op, x with
  | .neg, .int k n => some (.int k (k.wrap (0 - n)))
  | .xor, .int k n => some (.int k (k.wrap ((BitVec.ofInt k.bits (if k.signed then -1 else k.max) ^^^ BitVec.ofInt k.bits n).toNat : Nat)))
  | .not, .bool b => some (.bool !b)
  | _, _ => none

/-! ### slices -/
def elems (L : List Obj) : V → Option (List V)
  | .sl _ _ xs => some xs
  | .own id off len gen => match L[id]? with
    | some (.buf _ _ xs) => if gen = xs.length then some ((xs.drop off).take len) else none
    | _ => none
  | .bsl id off len => match L[id]? with
    | some (.box cs) => if off + len ≤ cs.length then some ((cs.drop off).take len) else none
    | _ => none
  | .str s => some (s.data.toList.map fun b => V.int .u8 b.toNat)
  | _ => none

/-- the cells from a pointer on -/
def pcells (L : List Obj) : V → Option (List V)
  | .ref id off => match L[id]? with
    | some (.box cs) => some (cs.drop off)
    | _ => none
  | .cref cs => some cs
  | .eref id gen i j => match L[id]? with
    | some (.buf _ _ xs) => if gen = xs.length then (xs[i]?).map fun x => x.cells.drop j else none
    | _ => none
  | _ => none

def pload (P : Program) (L : List Obj) (t : TypeId) (p : V) : Option V :=
  match pcells L p, szT P t, aggT P t with
  | some cs, some n, some true => if n ≤ cs.length then some (.agg (cs.take n)) else none
  | some cs, some _, some false => cs[0]?
  | _, _, _ => none

def setAt (cs : List V) (off : Nat) (vs : List V) : List V := cs.take off ++ vs ++ cs.drop (off + vs.length)

def setElem (x : V) (j : Nat) (vs : List V) : V :=
  match x with
  | .agg cs => .agg (setAt cs j vs)
  | x => vs.headD x

def pstore (P : Program) (L : List Obj) (t : TypeId) (p v : V) : Option (List Obj) :=
  if szT P t = some v.cells.length ∧ v.cells.all V.one = true then
    match p with
    | .ref id off => match L[id]? with
      | some (.box cs) => if off + v.cells.length ≤ cs.length then some (L.set id (.box (setAt cs off v.cells))) else none
      | _ => none
    | .eref id gen i j => match L[id]? with
      | some (.buf sz m xs) =>
        if gen = xs.length ∧ m ≤ i ∧ j + v.cells.length ≤ sz ∧ 0 < v.cells.length then
          match xs[i]? with
          | some x => some (L.set id (.buf sz m (xs.set i (setElem x j v.cells))))
          | none => none
        else none
      | _ => none
    | _ => none
  else none

def toNat? : V → Option Nat
  | .int _ n => if 0 ≤ n then some n.toNat else none
  | _ => none

def pindexAddr (P : Program) (L : List Obj) (t : TypeId) (x i : V) : Option V :=
  match P.underlying t, toNat? i with
  | some (.slice e), some i => match szT P e, x with
    | some sz, .sl _ _ xs => match xs[i]? with
      | some y => if y.cells.length = sz then some (.cref y.cells) else none
      | none => none
    | some sz, .own id off len gen => match L[id]? with
      | some (.buf sz' _ xs) => if gen = xs.length ∧ i < len ∧ sz' = sz then some (.eref id gen (off + i) 0) else none
      | _ => none
    | some 1, .bsl id off len => if i < len then some (.ref id (off + i)) else none
    | _, _ => none
  | some (.array n e), some i => match szT P e, x with
    | some sz, .ref id off => if i < n then some (.ref id (off + i * sz)) else none
    | some sz, .cref cs => if i < n ∧ i * sz ≤ cs.length then some (.cref (cs.drop (i * sz))) else none
    | some sz, .eref id gen a j => if i < n then some (.eref id gen a (j + i * sz)) else none
    | _, _ => none
  | _, _ => none

def pindex (P : Program) (t : TypeId) (x i : V) : Option V :=
  match P.underlying t, x, toNat? i with
  | some .string, .str s, some i => (s[i]?).map fun b => .int .u8 b.toNat
  | some (.array n e), .agg cs, some i => match szT P e, aggT P e with
    | some sz, some true => if i < n ∧ i * sz + sz ≤ cs.length then some (.agg ((cs.drop (i * sz)).take sz)) else none
    | some sz, some false => if i < n then cs[i * sz]? else none
    | _, _ => none
  | _, _, _ => none

def fieldOf (P : Program) (t : TypeId) (i : Nat) : Option Field :=
  match P.underlying t with
  | some (.struct fs) => fs[i]?
  | _ => none

def pfieldAddr (P : Program) (t : TypeId) (x : V) (i : Nat) : Option V :=
  match fieldOf P t i with
  | none => none
  | some f => if szT P f.type = some 0 ∨ szT P f.type = none then none else match x with
    | .ref id off => some (.ref id (off + f.offset))
    | .cref cs => if f.offset ≤ cs.length then some (.cref (cs.drop f.offset)) else none
    | .eref id gen a j => some (.eref id gen a (j + f.offset))
    | _ => none

def pfield (P : Program) (t : TypeId) (x : V) (i : Nat) : Option V :=
  match fieldOf P t i, x with
  | some f, .agg cs => match szT P f.type, aggT P f.type with
    | some sz, some true => if f.offset + sz ≤ cs.length then some (.agg ((cs.drop f.offset).take sz)) else none
    | some _, some false => cs[f.offset]?
    | _, _ => none
  | _, _ => none

/-- bounds of a slice expression -/
def pbounds (len : Nat) (lo hi : Option V) : Option (Nat × Nat) :=
  let h := match hi with | some v => toNat? v | none => some len
  let l := match lo with | some v => toNat? v | none => some 0
  match l, h with
  | some l, some h => if l ≤ h ∧ h ≤ len then some (l, h) else none
  | _, _ => none

def pslice (P : Program) (L : List Obj) (t : TypeId) (x : V) (lo hi mx : Option V) : Option V :=
  match P.underlying t, x, mx with
  | some .string, .str s, none => (pbounds s.size lo hi).map fun (l, h) => .str (s.extract l h)
  | some (.slice e), .sl n ex xs, none => match szT P e with
    | some sz => if xs.all (fun y => y.cells.length == sz) then (pbounds xs.length lo hi).map fun (l, h) => .sl n (ex && (h == xs.length)) ((xs.take h).drop l) else none
    | none => none
  | some (.slice e), .sl false _ xs, some m => match szT P e, toNat? m with
    | some sz, some m => if xs.all (fun y => y.cells.length == sz) ∧ m ≤ xs.length then
        match pbounds m lo hi with
        | some (l, h) => if hi.isSome then some (.sl false (h == m) ((xs.take h).drop l)) else none
        | none => none
      else none
    | _, _ => none
  | some (.slice e), .own id off len gen, none => match szT P e, L[id]? with
    | some sz, some (.buf sz' _ xs) => if sz' = sz ∧ gen = xs.length then (pbounds len lo hi).map fun (l, h) => .own id (off + l) (h - l) gen else none
    | _, _ => none
  | some (.slice e), .bsl id off len, none => if szT P e = some 1 then (pbounds len lo hi).map fun (l, h) => .bsl id (off + l) (h - l) else none
  | some (.array n e), .ref id off, none => if szT P e = some 1 then (pbounds n lo hi).map fun (l, h) => .bsl id (off + l) (h - l) else none
  | some (.array n e), .cref cs, none => if szT P e = some 1 ∧ n ≤ cs.length ∧ cs.all V.one then
      (pbounds n lo hi).map fun (l, h) => .sl false (h == n) ((cs.take h).drop l) else none
  | _, _, _ => none

def toBytes : List V → Option (List UInt8)
  | [] => some []
  | .int .u8 n :: vs => (toBytes vs).map (UInt8.ofNat n.toNat :: ·)
  | _ => none

def pconv (P : Program) (L : List Obj) (src dst : TypeId) (x : V) : Option V :=
  match P.underlying src, P.underlying dst, x with
  | some _, some (.int k), .int _ n => some (.int k (k.wrap n))
  | some _, some .string, .str s => some (.str s)
  | some (.slice e), some .string, x => match P.underlying e, szT P e with
    | some (.int .u8), some 1 => ((elems L x).bind toBytes).map fun l => .str ⟨l.toArray⟩
    | _, _ => none
  | some .string, some (.slice e), .str s => match P.underlying e, szT P e with
    | some (.int .u8), some 1 => some (.sl false false (s.data.toList.map fun b => .int .u8 b.toNat))
    | _, _ => none
  | _, _, _ => none

/-! ### composites -/
def fillV (place : Nat → Option (Nat × Nat)) (cells : List V) : List (Nat × V) → Option (List V)
  | [] => some cells
  | (i, v) :: rest =>
    match place i with
    | none => none
    | some (off, size) =>
      if v.cells.length ≠ size ∨ off + v.cells.length > cells.length then none
      else fillV place (setAt cells off v.cells) rest

def placeOf (P : Program) (d : TypeDesc) (i : Nat) : Option (Nat × Nat) :=
  match d with
  | .struct fs => match fs[i]? with
    | some f => (szT P f.type).map fun n => (f.offset, n)
    | none => none
  | .array _ e => (szT P e).map fun n => (i * n, n)
  | _ => none

def sizedD (P : Program) : TypeDesc → Bool
  | .struct fs => fs.toList.all fun f => (szT P f.type).isSome
  | .array _ e => (szT P e).isSome
  | _ => false

def pbuild (P : Program) (t : TypeId) (parts : List (Nat × V)) : Option V :=
  match zeroV P t, P.underlying t with
  | some z, some d => if sizedD P d then (fillV (placeOf P d) z.cells parts).map V.agg else none
  | _, _ => none

def repl (n : Nat) (z : List V) : List V := (List.replicate n z).flatten

/-- elements out of cells -/
def chunk (sz : Nat) (ag : Bool) : Nat → List V → List V
  | 0, _ => []
  | n + 1, cs => (if ag then .agg (cs.take sz) else cs.headD .undef) :: chunk sz ag n (cs.drop sz)

def pbuildSlice (P : Program) (t : TypeId) (len : Nat) (parts : List (Nat × V)) : Option V :=
  match P.underlying t with
  | some (.slice e) => match szT P e, zeroV P e, aggT P e with
    | some sz, some z, some ag =>
      if 0 < sz ∧ len * sz ≤ 16777216 ∧ z.cells.length = sz ∧ (ag = true ∨ sz = 1) then
        match fillV (fun i => some (i * sz, sz)) (repl len z.cells) parts with
        | some cs => if cs.all V.one = true then some (.sl false true (chunk sz ag len cs)) else none
        | none => none
      else none
    | _, _, _ => none
  | _ => none

def pmakeSlice (P : Program) (L : List Obj) (t : TypeId) (len cap : V) : Option (V × List Obj) :=
  match P.underlying t, len, cap with
  | some (.slice e), .int .i64 n, .int .i64 c => match szT P e, zeroV P e with
    | some sz, some z =>
      if 0 < sz ∧ z.cells.length = sz ∧ 0 ≤ n ∧ n ≤ c ∧ c ≤ 9223372036854775807 ∧ byT P e * c ≤ 281474976710656 then
        some (.own L.length 0 n.toNat n.toNat, L ++ [.buf sz 0 (List.replicate n.toNat z)])
      else none
    | _, _ => none
  | _, _, _ => none

def pappendY (P : Program) (L : List Obj) (t : TypeId) (s : V) (xs : Option (List V)) : Option (V × List Obj) :=
  match P.underlying t with
  | some (.slice e) => match szT P e, zeroV P e, xs with
    | some sz, some z, some ys =>
      if 0 < sz ∧ z.cells.length = sz ∧ ys.all (fun y => y.cells.length == sz && y.cells.all V.one) = true then
        match s with
        | .own id off len gen => match L[id]? with
          | some (.buf sz' m xs) =>
            if gen = xs.length ∧ off = 0 ∧ len = gen ∧ sz' = sz ∧ (len + ys.length) * byT P e ≤ 140737488355328 ∧ len + ys.length ≤ 4611686018427387904 then
              some (.own id 0 (len + ys.length) (len + ys.length), L.set id (.buf sz m (xs ++ ys)))
            else if gen = xs.length ∧ off = 0 ∧ sz' = sz ∧ m ≤ len ∧ len < gen ∧ len + ys.length ≤ gen then
              some (.own id 0 (len + ys.length) gen, L.set id (.buf sz m (xs.take len ++ ys ++ xs.drop (len + ys.length))))
            else none
          | _ => none
        | .sl _ true xs =>
          if xs.all (fun y => y.cells.length == sz) = true ∧ (xs.length + ys.length) * byT P e ≤ 140737488355328 ∧ xs.length + ys.length ≤ 4611686018427387904 then
            some (.own L.length 0 (xs.length + ys.length) (xs.length + ys.length), L ++ [.buf sz xs.length (xs ++ ys)])
          else none
        | _ => none
      else none
    | _, _, _ => none
  | _ => none

def pappend (P : Program) (L : List Obj) (t : TypeId) (s x : V) : Option (V × List Obj) := pappendY P L t s (elems L x)
/-- Zeros, so many as are told. -/
def pzeros (P : Program) (t : TypeId) (x : V) : Option (List V) :=
  match P.underlying t, x with
  | some (.slice e), .int .i64 n => match zeroV P e with
    | some z => if 0 ≤ n ∧ n ≤ 1000000 ∧ byT P e ≤ 1000 then some (List.replicate n.toNat z) else none
    | none => none
  | _, _ => none
def pcopy (P : Program) (L : List Obj) (t : TypeId) (d s : V) : Option (V × List Obj) :=
  match P.underlying t with
  | some (.slice e) => match szT P e, elems L s with
    | some sz, some ys =>
      if 0 < sz ∧ ys.all (fun y => y.cells.length == sz && y.cells.all V.one) = true then
        match d with
        | .own id off len gen => match L[id]? with
          | some (.buf sz' m xs) =>
            if gen = xs.length ∧ off + len ≤ gen ∧ sz' = sz ∧ m ≤ off then
              some (.int .i64 (min ys.length len : Nat), L.set id (.buf sz m (xs.take off ++ ys.take len ++ xs.drop (off + min ys.length len))))
            else none
          | _ => none
        | .bsl id off len => match L[id]? with
          | some (.box cs) => if off + len ≤ cs.length ∧ sz = 1 then
              some (.int .i64 (min ys.length len : Nat), L.set id (.box (setAt cs off (flat (ys.take len))))) else none
          | _ => none
        | _ => none
      else none
    | _, _ => none
  | _ => none

/-- Zeros in one's own row. -/
def pclear (P : Program) (L : List Obj) (t : TypeId) (x : V) : Option (V × List Obj) :=
  match P.underlying t, x with
  | some (.slice e), .own id off len gen => match szT P e, zeroV P e, L[id]? with
    | some sz, some z, some (.buf sz' m xs) =>
      if 0 < sz ∧ z.cells.length = sz ∧ (∀ c ∈ z.cells, c.one = true) ∧ gen = xs.length ∧ off + len ≤ gen ∧ sz' = sz ∧ m ≤ off then
        some (.tup [], L.set id (.buf sz m (xs.take off ++ List.replicate len z ++ xs.drop (off + len))))
      else none
    | _, _, _ => none
  | _, _ => none
def pcap (P : Program) (t : TypeId) (x : V) : Option V :=
  match P.underlying t, x with
  | some (.slice _), .sl _ true xs => some (.int .i64 xs.length)
  | _, _ => none
def pmm (isMax : Bool) : V → List V → Option V
  | x, [] => some x
  | .int k a, .int _ b :: rest => pmm isMax (.int k (if isMax then (if b > a then b else a) else (if b < a then b else a))) rest
  | _, _ => none
def pminmax (isMax : Bool) : List V → Option V
  | [] => none
  | x :: rest => pmm isMax x rest

def pbuiltin (P : Program) (L : List Obj) (b : Builtin) (ts : Array TypeId) (xs : List V) : Option (V × List Obj) :=
  match b, xs with
  | .len, [x] => match ts[0]? with
    | some t => match P.underlying t with
      | some (.array n _) => some (.int .i64 n, L)
      | some (.pointer a) => match P.underlying a with
        | some (.array n _) => some (.int .i64 n, L)
        | _ => none
      | some (.slice _) => match x with
        | .sl _ _ xs => some (.int .i64 xs.length, L)
        | .own _ _ len _ => some (.int .i64 len, L)
        | .bsl _ _ len => some (.int .i64 len, L)
        | _ => none
      | some .string => match x with
        | .str s => some (.int .i64 s.size, L)
        | _ => none
      | some (.map _ _) => match x with
        | .map id => match L[id]? with
          | some (.map es) => some (.int .i64 es.length, L)
          | _ => none
        | .nilmap => some (.int .i64 0, L)
        | _ => none
      | _ => none
    | none => none
  | .append, [s, x] => match ts[0]?, ts[1]? with
    | some t, some u => match P.underlying u with
      | some (.slice _) | some .string => pappend P L t s x
      | some (.int _) => pappendY P L t s (pzeros P t x)
      | _ => none
    | _, _ => none
  | .copy, [d, s] => match ts[0]? with
    | some t => pcopy P L t d s
    | none => none
  | .clear, [x] => match ts[0]? with
    | some t => pclear P L t x
    | none => none
  | .cap, [x] => match ts[0]? with
    | some t => (pcap P t x).map (·, L)
    | none => none
  | .min, xs => (pminmax false xs).map (·, L)
  | .max, xs => (pminmax true xs).map (·, L)
  | _, _ => none

/-- A slice, seen as an array's place. -/
def ptoArr (P : Program) (t : TypeId) (x : V) : Option V :=
  match P.underlying t, x with
  | some (.array n _), .sl false _ xs => if 0 < n ∧ n ≤ xs.length then some (.cref (flat xs)) else none
  | _, _ => none

/-! maps of whole numbers -/
def mfind (k : IntKind) (n : Int) : List (V × V) → Nat → Option (Option (Nat × V))
  | [], _ => some none
  | (key, v) :: r, i => match key with
    | .int k' a => if k = k' then (if n == a then some (some (i, v)) else mfind k n r (i + 1)) else none
    | _ => none
def mrows (L : List Obj) : V → Option (List (V × V))
  | .nilmap => some []
  | .map id => match L[id]? with
    | some (.map es) => some es
    | _ => none
  | _ => none
def plookup (P : Program) (L : List Obj) (t : TypeId) (x i : V) (ok : Bool) : Option V :=
  match P.underlying t, i with
  | some (.map key elem), .int k n => match P.underlying key, mrows L x, zeroV P elem with
    | some (.int _), some es, some z => match mfind k n es 0 with
      | some (some (_, v)) => some (if ok then .tup [v, .bool true] else v)
      | some none => some (if ok then .tup [z, .bool false] else z)
      | none => none
    | _, _, _ => none
  | _, _ => none
def pmapUpdate (P : Program) (L : List Obj) (t : TypeId) (m i x : V) : Option (List Obj) :=
  match P.underlying t, m, i with
  | some (.map key _), .map id, .int k n => match P.underlying key, L[id]? with
    | some (.int _), some (.map es) => match mfind k n es 0 with
      | some (some (j, _)) => some (L.set id (.map (es.set j (.int k n, x))))
      | some none => some (L.set id (.map (es ++ [(.int k n, x)])))
      | none => none
    | _, _ => none
  | _, _, _ => none

/-- An operation that is no call of a function. -/
def pop (P : Program) (L : List Obj) (ev : Operand → V) : Op → Option (V × List Obj)
  | .move x | .assign x => some (ev x, L)
  | .pick c a b => match ev c with
    | .bool true => some (ev a, L)
    | .bool false => some (ev b, L)
    | _ => none
  | .alloc t => match zeroV P t with
    | some z => if z.cells.all V.one = true then some (.ref L.length 0, L ++ [.box z.cells]) else none
    | none => none
  | .box _ x => if (ev x).cells.all V.one = true then some (.ref L.length 0, L ++ [.box (ev x).cells]) else none
  | .build t parts => (pbuild P t (parts.toList.map fun p => (p.1, ev p.2))).map (·, L)
  | .buildSlice t len parts => (pbuildSlice P t len (parts.toList.map fun p => (p.1, ev p.2))).map (·, L)
  | .load t a => (pload P L t (ev a)).map (·, L)
  | .store t a x => (pstore P L t (ev a) (ev x)).map (V.undef, ·)
  | .nilCheck x => match ev x with
    | .ref i o => some (.ref i o, L)
    | .eref a b c d => some (.eref a b c d, L)
    | .cref cs => some (.cref cs, L)
    | .fn f c => some (.fn f c, L)
    | .yl i => some (.yl i, L)
    | _ => none
  | .binOp op t x y _ => (pbin P op t (ev x) (ev y)).map (·, L)
  | .unOp op _ x => (pun op (ev x)).map (·, L)
  | .convert src dst x => (pconv P L src dst (ev x)).map (·, L)
  | .makeFunc (.func f) first captured => if first.isEmpty then some (.fn f (captured.toList.map ev), L) else none
  | .makeSlice t len cap => pmakeSlice P L t (ev len) (ev cap)
  | .slice t x lo hi mx => (pslice P L t (ev x) (lo.map ev) (hi.map ev) (mx.map ev)).map (·, L)
  | .fieldAddr t x i => (pfieldAddr P t (ev x) i).map (·, L)
  | .field t x i => (pfield P t (ev x) i).map (·, L)
  | .indexAddr t x i => (pindexAddr P L t (ev x) (ev i)).map (·, L)
  | .index t x i => (pindex P t (ev x) (ev i)).map (·, L)
  | .extract x i => match ev x with
    | .tup vs => (vs[i]?).map (·, L)
    | _ => none
  | .sliceToArrayPointer t x => (ptoArr P t (ev x)).map (·, L)
  | .call { callee := .builtin b, args, argTypes } => pbuiltin P L b argTypes (args.toList.map ev)
  | .makeMap _ none => some (.map L.length, L ++ [.map []])
  | .lookup t x i ok => (plookup P L t (ev x) (ev i) ok).map (·, L)
  | .mapUpdate t m i x => (pmapUpdate P L t (ev m) (ev i) (ev x)).map (V.undef, ·)
  | _ => none
end Go.Pv
