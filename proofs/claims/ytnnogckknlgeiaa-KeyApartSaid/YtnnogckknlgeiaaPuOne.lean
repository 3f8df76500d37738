/- The pure machine, part one: a deterministic reading of the model's code on pure data; values and operations, each shown to tell what the model does. No condition on a program. -/
import Derived.Calls
import Derived.Orders
import Derived.Below
import Derived.Laws.StructEq
import Derived.Laws.Append
import Derived.Laws.CopyRow
import Derived.Laws.Cells
import Derived.Laws.BytesArg
import Derived.Laws.AppendOwn
section
/- The pure machine: a deterministic reading of the model's code on pure data. -/
namespace Go.Pu

inductive PV where
  | top
  | bool (b : Bool)
  | int (k : IntKind) (n : Int)
  | str (s : ByteArray)
  | agg (cs : List PV)
  | tuple (vs : List PV)
  | nils
  | lst (t : TypeId) (es : List (List PV))
  | all (b : Nat)
  | own (b off n : Nat)
  | new (t : TypeId) (es : List (List PV))
  | nilp
  | ptr (b off : Nat)
  | aptr (b i off : Nat)
  | eptr (t : TypeId) (cs : List PV) (off : Nat)
  | newb (t : TypeId) (cs : List PV)
  | fn (f : FuncId) (caps : List PV)
  | nilfn
  | iface (t : TypeId) (v : PV)
  | nili

inductive Blk where
  | dead
  | res
  | arr (t : TypeId) (es : List (List PV)) (live : Bool)
  | box (t : TypeId) (cs : List PV)

abbrev Heap := List Blk

inductive Kd where
  | int (k : IntKind) | bool | str | sl (t : TypeId) | other
  deriving DecidableEq

def kdOf (P : Program) (t : TypeId) : Kd :=
  match P.underlying t with
  | some (.int k) => .int k
  | some .bool => .bool
  | some .string => .str
  | some (.slice e) => .sl e
  | _ => .other

def kdsOf (P : Program) : Nat → TypeId → List Kd
  | 0, _ => []
  | n + 1, t =>
    match P.underlying t with
    | some (.struct fs) => fs.toList.flatMap fun f => kdsOf P n f.type
    | some (.array len e) => (List.replicate len (kdsOf P n e)).flatten
    | _ => [kdOf P t]

def kds (P : Program) (t : TypeId) : List Kd := kdsOf P 6 t

def elSize (P : Program) (e : TypeId) : Option Nat :=
  (P.info? e).bind fun i => if i.size = (kds P e).length ∧ 0 < i.size ∧ i.zero.map (·.cells.size) = some i.size then some i.size else none

def PV.toI : PV → Int | .int _ n => n | _ => 0
def PV.toB : PV → Bool | .bool b => b | _ => false
def PV.toS : PV → ByteArray | .str s => s | _ => ⟨#[]⟩
def PV.toL : PV → List (List PV) | .lst _ es => es | _ => []

def proj : Kd → PV → PV
  | .int k, v => .int k v.toI
  | .bool, v => .bool v.toB
  | .str, v => .str v.toS
  | .sl t, v => .lst t v.toL
  | .other, v => v

def cellOK : Kd → PV → Bool
  | .int k, .int k' _ => decide (k = k')
  | .bool, .bool _ => true
  | .str, .str _ => true
  | .sl t, .lst t' _ => decide (t = t')
  | _, _ => false

def cellsOK : List Kd → List PV → Bool
  | [], [] => true
  | k :: ks, c :: cs => cellOK k c && cellsOK ks cs
  | _, _ => false

def PV.cells : PV → List PV
  | .agg cs => cs
  | v => [v]

/-- an address into memory that is there -/
def aliveP (h : Heap) : PV → Bool
  | .ptr b _ => match h[b]? with | some (.box _ _) => true | _ => false
  | .aptr b _ _ => match h[b]? with | some (.arr _ _ _) => true | _ => false
  | .eptr _ _ _ => true
  | _ => false

/-- a value of which it is known how many cells it has -/
def okv (h : Heap) : PV → Bool
  | .top | .tuple _ | .new _ _ | .newb _ _ => false
  | .all b | .own b _ _ => match h[b]? with | some (.arr _ _ _) => true | _ => false
  | .ptr b o => aliveP h (.ptr b o)
  | .aptr b i o => aliveP h (.aptr b i o)
  | _ => true

/-- the content of what can be read as a slice: its elements' type, its elements -/
def content (h : Heap) : PV → Option (Option TypeId × List (List PV))
  | .nils => some (none, [])
  | .lst t es => some (some t, es)
  | .all b => match h[b]? with | some (.arr t es _) => some (some t, es) | _ => none
  | .own b off n => match h[b]? with | some (.arr t es _) => if off + n ≤ es.length then some (some t, (es.drop off).take n) else none | _ => none
  | _ => none

def freeze (h : Heap) (b : Nat) : Heap :=
  match h[b]? with
  | some (.arr t es _) => h.set b (.arr t es false)
  | _ => h

/-- a value as it is put into an array's cell: a slice of one's own becomes plain data, and its row is written no more -/
def purCell (h : Heap) (k : Kd) (x : PV) : Option (PV × Heap) :=
  match k, x with
  | .sl t, .nils => some (.lst t [], h)
  | .sl t, .all b => match h[b]? with | some (.arr t' es _) => if t = t' then some (.lst t es, freeze h b) else none | _ => none
  | .sl t, .own b off n => match h[b]? with
    | some (.arr t' es _) => if t = t' ∧ off + n ≤ es.length then some (.lst t ((es.drop off).take n), freeze h b) else none
    | _ => none
  | k, x => if cellOK k x then some (x, h) else none

def purCells (h : Heap) : List Kd → List PV → Option (List PV × Heap)
  | [], [] => some ([], h)
  | k :: ks, c :: cs => (purCell h k c).bind fun r => (purCells r.2 ks cs).bind fun s => some (r.1 :: s.1, s.2)
  | _, _ => none

def ofConst1 : Value → PV
  | .bool b => .bool b
  | .int k n => .int k n
  | .string s => .str s
  | .slice none 0 0 => .nils
  | .pointer none => .nilp
  | .nilFunc => .nilfn
  | .nilIface => .nili
  | _ => .top

def ofConst : Value → PV
  | .agg cs => .agg (cs.toList.map ofConst1)
  | v => ofConst1 v

def ev (ts : List PV) : Operand → PV
  | .tmp t => ts.getD t .top
  | .const v => ofConst v
  | .global _ => .top
  | .func f => .fn f []

/-- where an operation puts a block that it makes: behind all, or at a place that was kept for it -/
def allocAt (al : Option Nat) (h : Heap) (b : Blk) : Nat × Heap :=
  match al with
  | none => (h.length, h ++ [b])
  | some s => (s, h.set s b)

def scalarKd : Kd → Bool
  | .int _ | .bool | .str => true
  | _ => false

/-- a variable's value out of its cells -/
def loadBox (P : Program) (t : TypeId) (cs : List PV) (off : Nat) : Option PV :=
  match P.underlying t, P.info? t with
  | some (.struct _), some i | some (.array _ _), some i => if off + i.size ≤ cs.length then some (.agg ((cs.drop off).take i.size)) else none
  | some _, some _ => if off < cs.length then some (cs.getD off .top) else none
  | _, _ => none

def part (P : Program) (t : TypeId) (cs : List PV) (off : Nat) : Option PV := loadBox P t cs off

def eqFs (P : Program) (rec : TypeId → PV → PV → Option Bool) (xs ys : List PV) : List Field → Option Bool
  | [] => some true
  | f :: fs =>
    if f.name = "_" then eqFs P rec xs ys fs else
    (part P f.type xs f.offset).bind fun a => (part P f.type ys f.offset).bind fun b => (rec f.type a b).bind fun r =>
      (eqFs P rec xs ys fs).bind fun s => some (r && s)

def eqAt (P : Program) : Nat → TypeId → PV → PV → Option Bool
  | 0, _, _, _ => none
  | n + 1, t, x, y =>
    match P.underlying t, x, y with
    | some .bool, .bool a, .bool b => some (a == b)
    | some (.int _), .int k a, .int k' b => if k = k' then some (a == b) else none
    | some .string, .str a, .str b => some (a.toList == b.toList)
    | some (.struct fs), .agg xs, .agg ys => if P.stoodInHeld t then none else eqFs P (eqAt P n) xs ys fs.toList
    | _, _, _ => none

def strOp (op : BinOp) (x y : ByteArray) : Option PV :=
  let eq := x.toList == y.toList
  let lt := Op.bytesLess x.toList y.toList
  match op with
  | .add => if x.size + y.size ≤ 9223372036854775807 then some (.str (x ++ y)) else none
  | .eql => some (.bool eq)
  | .neq => some (.bool (!eq))
  | .lss => some (.bool lt)
  | .leq => some (.bool (lt || eq))
  | .gtr => some (.bool (!(lt || eq)))
  | .geq => some (.bool (!lt))
  | _ => none

def bitsOp (op : BinOp) (k : IntKind) (x y : Int) : Option PV :=
  let a := BitVec.ofInt k.bits x
  let b := BitVec.ofInt k.bits y
  match op with
  | .and => some (.int k (k.wrap (a &&& b).toNat))
  | .or => some (.int k (k.wrap (a ||| b).toNat))
  | .xor => some (.int k (k.wrap (a ^^^ b).toNat))
  | .andNot => some (.int k (k.wrap (a &&& ~~~b).toNat))
  | _ => none

def intOp (op : BinOp) (k : IntKind) (a b : Int) : Option PV :=
  match op with
  | .add => some (.int k (k.wrap (a + b)))
  | .sub => some (.int k (k.wrap (a - b)))
  | .mul => some (.int k (k.wrap (a * b)))
  | .quo => if b = 0 then none else some (.int k (k.wrap (a.tdiv b)))
  | .rem => if b = 0 then none else some (.int k (a.tmod b))
  | .eql => some (.bool (a == b))
  | .neq => some (.bool (a != b))
  | .lss => some (.bool (decide (a < b)))
  | .leq => some (.bool (decide (a ≤ b)))
  | .gtr => some (.bool (decide (a > b)))
  | .geq => some (.bool (decide (a ≥ b)))
  | op => bitsOp op k a b

def shiftOp (op : BinOp) (k : IntKind) (a b : Int) : Option PV :=
  if b < 0 then none else
  match op with
  | .shl => some (.int k (k.wrap (a * 2 ^ (min b.toNat k.bits))))
  | .shr => some (.int k (a.fdiv (2 ^ (min b.toNat k.bits))))
  | _ => none

def eqOp (P : Program) (t : TypeId) (x y : PV) : Option Bool :=
  match x, y with
  | .bool _, .bool _ => eqAt P 1 t x y
  | .nils, .nils => match P.underlying t with | some (.slice _) => some true | _ => none
  | .agg _, .agg _ => if P.eqGuardType P.depth t then none else eqAt P 6 t x y
  | _, _ => none

def binOp (P : Program) (op : BinOp) (t : TypeId) (x y : PV) : Option PV :=
  match x, y with
  | .int k a, .int k' b =>
    match op with
    | .shl | .shr => shiftOp op k a b
    | op => if k = k' then intOp op k a b else none
  | .str a, .str b => strOp op a b
  | x, y =>
    match op with
    | .eql => (eqOp P t x y).map .bool
    | .neq => (eqOp P t x y).map fun b => .bool (!b)
    | _ => none

def unOp (op : UnOp) (x : PV) : Option PV :=
  match op, x with
  | .neg, .int k n => some (.int k (k.wrap (0 - n)))
  | .xor, .int k n => bitsOp .xor k (if k.signed then -1 else k.max) n
  | .not, .bool b => some (.bool (!b))
  | _, _ => none

/-- a string's bytes as elements -/
def bytesOf (s : ByteArray) : List (List PV) := s.data.toList.map fun b => [.int .u8 b.toNat]

def strOf (es : List (List PV)) : ByteArray := ⟨(es.map fun e => UInt8.ofNat ((e.getD 0 .top).toI).toNat).toArray⟩

def convertOp (P : Program) (src dst : TypeId) (h : Heap) (x : PV) : Option PV :=
  match x with
  | .int _ n => match kdOf P src, kdOf P dst with | .int _, .int k => some (.int k (k.wrap n)) | _, _ => none
  | .str s => match kdOf P src, kdOf P dst with | .str, .str => some (.str s) | _, _ => none
  | x => match kdOf P src, kdOf P dst with
    | .sl e, .str => if kdOf P e = .int .u8 ∧ elSize P e = some 1 then
        (content h x).bind fun c => if c.1 = none ∨ c.1 = some e then some (.str (strOf c.2)) else none
      else none
    | _, _ => none

def projs : List Kd → List PV → Nat → List PV
  | [], _, _ => []
  | k :: ks, cs, off => proj k (cs.getD off .top) :: projs ks cs (off + 1)

def loadEl (P : Program) (t T : TypeId) (cs : List PV) (off : Nat) : Option PV :=
  match P.underlying t, P.info? t with
  | some (.struct _), some i | some (.array _ _), some i =>
    if kds P t = ((kds P T).drop off).take i.size ∧ (kds P t).length = i.size ∧ off + i.size ≤ (kds P T).length then some (.agg (projs (kds P t) cs off)) else none
  | some _, some _ => if (kds P T)[off]? = some (kdOf P t) then some (proj (kdOf P t) (cs.getD off .top)) else none
  | _, _ => none

def loadOp (P : Program) (t : TypeId) (h : Heap) (a : PV) : Option PV :=
  match a with
  | .ptr b off => match h[b]? with | some (.box _ cs) => loadBox P t cs off | _ => none
  | .aptr b i off => match h[b]? with | some (.arr T es _) => if i < es.length then loadEl P t T (es.getD i []) off else none | _ => none
  | .eptr T cs off => loadEl P t T cs off
  | _ => none

def setCells : List PV → Nat → List PV → List PV
  | cs, _, [] => cs
  | cs, off, x :: xs => setCells (cs.set off x) (off + 1) xs

def cell1 : PV → Bool
  | .top | .agg _ | .tuple _ | .new _ _ | .newb _ _ => false
  | _ => true

def storeOp (P : Program) (t : TypeId) (h : Heap) (a x : PV) : Option Heap :=
  match P.info? t with
  | none => none
  | some i =>
    if x.cells.length ≠ i.size ∨ x.cells.all cell1 = false ∨ okv h x = false ∨ x.cells.all (okv h) = false then none else
    match a with
    | .ptr b off => match h[b]? with
      | some (.box T cs) => if off + i.size ≤ cs.length then some (h.set b (.box T (setCells cs off x.cells))) else none
      | _ => none
    | .aptr b j off => match h[b]? with
      | some (.arr T es true) =>
        if j < es.length ∧ off + i.size ≤ (kds P T).length then
          (purCells h (((kds P T).drop off).take i.size) x.cells).bind fun r =>
            match r.2[b]? with
            | some (.arr _ es2 true) => some (r.2.set b (.arr T (es2.set j (setCells (es2.getD j []) off r.1)) true))
            | _ => none
        else none
      | _ => none
    | _ => none

def zeroPV (P : Program) (t : TypeId) : Option PV :=
  (P.info? t).bind fun i => i.zero.map ofConst

def fillPV (place : Nat → Option (Nat × Nat)) (cells : List PV) : List (Nat × PV) → Option (List PV)
  | [] => some cells
  | (i, v) :: rest =>
    match place i with
    | none => none
    | some (off, size) => if v.cells.length = size ∧ off + size ≤ cells.length then fillPV place (setCells cells off v.cells) rest else none

def buildOp (P : Program) (t : TypeId) (h : Heap) (parts : List (Nat × PV)) : Option PV :=
  if parts.all (fun p => okv h p.2) = false then none else
  match P.underlying t, P.info? t with
  | some (.struct fs), some i =>
    if fs.toList.all (fun f => (P.info? f.type).isSome) = false then none else
    (i.zero.map ofConst).bind fun z => (fillPV (fun j => (fs[j]?).map fun f => (f.offset, ((P.info? f.type).map (·.size)).getD 0)) z.cells parts).map .agg
  | some (.array _ e), some i =>
    (P.info? e).bind fun g => (i.zero.map ofConst).bind fun z => (fillPV (fun j => some (j * g.size, g.size)) z.cells parts).map .agg
  | _, _ => none

/-- a literal's elements: each place is given, in order -/
def litEls (P : Program) (e : TypeId) (h : Heap) : Nat → List (Nat × PV) → Option (List (List PV) × Heap)
  | _, [] => some ([], h)
  | j, (i, v) :: rest =>
    if i = j ∧ okv h v = true then
      (purCells h (kds P e) v.cells).bind fun r => (litEls P e r.2 (j + 1) rest).bind fun s => some (r.1 :: s.1, s.2)
    else none

def buildSliceOp (P : Program) (t : TypeId) (len : Nat) (parts : List (Nat × PV)) (al : Option Nat) (h : Heap) : Option (PV × Heap) :=
  match P.underlying t with
  | some (.slice e) =>
    (elSize P e).bind fun sz =>
      if parts.length = len ∧ len * sz ≤ 16777216 then
        (litEls P e h 0 parts).bind fun r => let z := allocAt al r.2 (.arr e r.1 true); some (.all z.1, z.2)
      else none
  | _ => none

/-- zero cells of an element -/
def zeroEl (P : Program) (e : TypeId) : Option (List PV) :=
  (zeroPV P e).bind fun z => (purCells [] (kds P e) z.cells).map (·.1)

def makeSliceOp (P : Program) (t : TypeId) (len cap : PV) (al : Option Nat) (h : Heap) : Option (PV × Heap) :=
  match P.underlying t, len, cap with
  | some (.slice e), .int .i64 n, .int .i64 c =>
    (elSize P e).bind fun _ => (P.info? e).bind fun i => (zeroEl P e).bind fun z =>
      if 0 ≤ n ∧ n ≤ c ∧ i.bytes * c ≤ 140737488355328 ∧ c ≤ 140737488355328 then
        let r := allocAt al h (.arr e (List.replicate n.toNat z) true)
        some (if n = c then .all r.1 else .own r.1 0 n.toNat, r.2)
      else none
  | _, _, _ => none

def bound (x : Option PV) (d : Nat) : Option Int :=
  match x with
  | none => some d
  | some (.int _ n) => some n
  | _ => none

def sliceStr (s : ByteArray) (lo hi : Option PV) : Option PV :=
  (bound lo 0).bind fun l => (bound hi s.size).bind fun u =>
    if 0 ≤ l ∧ l ≤ u ∧ u ≤ s.size then some (.str (s.extract l.toNat u.toNat)) else none

/-- a cut of a slice: within its length -/
def sliceRow (P : Program) (e : TypeId) (h : Heap) (lo hi : Option PV) (x : PV) : Option PV :=
  if elSize P e = none then none else
  match x with
  | .nils => (bound lo 0).bind fun l => (bound hi 0).bind fun u => if l = 0 ∧ u = 0 then some .nils else none
  | .lst T es =>
    (bound lo 0).bind fun l => (bound hi es.length).bind fun u =>
      if T = e ∧ 0 ≤ l ∧ l ≤ u ∧ u ≤ es.length then some (.lst T ((es.drop l.toNat).take (u.toNat - l.toNat))) else none
  | .all b =>
    match h[b]? with
    | some (.arr T es _) =>
      (bound lo 0).bind fun l => (bound hi es.length).bind fun u =>
        if T = e ∧ 0 ≤ l ∧ l ≤ u ∧ u ≤ es.length then some (.own b l.toNat (u.toNat - l.toNat)) else none
    | _ => none
  | .own b off n =>
    match h[b]? with
    | some (.arr T _ _) =>
      (bound lo 0).bind fun l => (bound hi n).bind fun u =>
        if T = e ∧ 0 ≤ l ∧ l ≤ u ∧ u ≤ n then some (.own b (off + l.toNat) (u.toNat - l.toNat)) else none
    | _ => none
  | _ => none

def sliceOp (P : Program) (t : TypeId) (h : Heap) (x : PV) (lo hi mx : Option PV) : Option PV :=
  if mx.isSome then none else
  match P.underlying t with
  | some .string => match x with | .str s => sliceStr s lo hi | _ => none
  | some (.slice e) => sliceRow P e h lo hi x
  | _ => none

def moved (a : PV) (n : Nat) : PV :=
  match a with
  | .ptr b off => .ptr b (off + n)
  | .aptr b j off => .aptr b j (off + n)
  | .eptr T cs off => .eptr T cs (off + n)
  | a => a

def fieldAddrOp (P : Program) (t : TypeId) (h : Heap) (a : PV) (f : Nat) : Option PV :=
  match P.underlying t with
  | some (.struct fs) =>
    (fs[f]?).bind fun fd => (P.info? fd.type).bind fun i => if i.size = 0 ∨ aliveP h a = false then none else some (moved a fd.offset)
  | _ => none

def fieldOp (P : Program) (t : TypeId) (x : PV) (f : Nat) : Option PV :=
  match P.underlying t, x with
  | some (.struct fs), .agg cs => (fs[f]?).bind fun fd => part P fd.type cs fd.offset
  | _, _ => none

def indexAddrOp (P : Program) (t : TypeId) (h : Heap) (x i : PV) : Option PV :=
  match P.underlying t, i with
  | some (.slice e), .int _ n =>
    if elSize P e = none then none else
    match x with
    | .lst T es => if T = e ∧ 0 ≤ n ∧ n < es.length then some (.eptr T (es.getD n.toNat []) 0) else none
    | .all b => match h[b]? with
      | some (.arr T es _) => if T = e ∧ 0 ≤ n ∧ n < es.length then some (.aptr b n.toNat 0) else none
      | _ => none
    | .own b off m => match h[b]? with
      | some (.arr T es _) => if T = e ∧ 0 ≤ n ∧ n < m ∧ off + n.toNat < es.length then some (.aptr b (off + n.toNat) 0) else none
      | _ => none
    | _ => none
  | some (.array len e), .int _ n =>
    match x with
    | .ptr b off => (P.info? e).bind fun g => if 0 ≤ n ∧ n < len ∧ aliveP h (.ptr b off) = true then some (.ptr b (off + n.toNat * g.size)) else none
    | _ => none
  | _, _ => none

def indexOp (P : Program) (t : TypeId) (x i : PV) : Option PV :=
  match P.underlying t, x, i with
  | some .string, .str s, .int _ n => if 0 ≤ n ∧ n < s.size then some (.int .u8 (s.data.toList.getD n.toNat 0).toNat) else none
  | some (.array len e), .agg cs, .int _ n =>
    (P.info? e).bind fun g => if 0 ≤ n ∧ n < len then part P e cs (n.toNat * g.size) else none
  | _, _, _ => none

def elemOf (P : Program) (t : TypeId) : Option TypeId :=
  match P.underlying t with | some (.slice e) => some e | _ => none

/-- what is appended, as elements -/
def tail (P : Program) (h : Heap) (e : TypeId) (x : PV) : Option (List (List PV)) :=
  match x with
  | .str s => if kdOf P e = .int .u8 then some (bytesOf s) else none
  | x => (content h x).bind fun c => if c.1 = none ∨ c.1 = some e then some c.2 else none

/-- a row that is appended to goes: it lies, or doesn't lie, in the new one -/
def drop1 (h : Heap) (x : PV) : Option Heap :=
  match x with
  | .nils => some h
  | .all b | .own b _ _ => match h[b]? with | some (.arr _ _ true) => some (h.set b .dead) | _ => none
  | _ => none

def appendOp (P : Program) (tys : Array TypeId) (h : Heap) (s x : PV) (al : Option Nat) : Option (PV × Heap) :=
  match tys[0]?, tys[1]? with
  | some sT, some xT =>
    match P.underlying xT with
    | some (.slice _) | some .string =>
      (elemOf P sT).bind fun e => (elSize P e).bind fun _ => (P.info? e).bind fun i => (content h s).bind fun c => (tail P h e x).bind fun ys =>
        if (c.1 = none ∨ c.1 = some e) ∧ (c.2.length + ys.length) * i.bytes ≤ 140737488355328 ∧ 0 < i.bytes then
          (drop1 h s).bind fun h' => let r := allocAt al h' (.arr e (c.2 ++ ys) true); some (.all r.1, r.2)
        else none
    | _ => none
  | _, _ => none

def lenOp (P : Program) (t : TypeId) (h : Heap) (x : PV) : Option PV :=
  match P.underlying t, x with
  | some .string, .str s => some (.int .i64 s.size)
  | some (.slice _), .own b off n => match h[b]? with | some (.arr _ es _) => if off + n ≤ es.length then some (.int .i64 n) else none | _ => none
  | some (.slice _), x => (content h x).map fun c => .int .i64 c.2.length
  | _, _ => none

def minmax (mx : Bool) (x y : PV) : Option PV :=
  match x, y with
  | .int k a, .int k' b => if k = k' then some (.int k (if mx then (if b > a then b else a) else (if b < a then b else a))) else none
  | _, _ => none

end Go.Pu
end

section
/- The pure machine, second part: calls, code. -/
namespace Go.Pu

def refs1 : PV → List Nat
  | .ptr b _ | .aptr b _ _ | .all b | .own b _ _ => [b]
  | _ => []

def refs : PV → List Nat
  | .agg cs => cs.flatMap refs1
  | .fn _ caps => caps.flatMap refs1
  | .iface _ v => refs1 v
  | x => refs1 x

def ren1 (f : Nat → Nat) : PV → PV
  | .ptr b o => .ptr (f b) o
  | .aptr b i o => .aptr (f b) i o
  | .all b => .all (f b)
  | .own b o n => .own (f b) o n
  | x => x

def ren (f : Nat → Nat) : PV → PV
  | .agg cs => .agg (cs.map (ren1 f))
  | .fn g caps => .fn g (caps.map (ren1 f))
  | .iface t v => .iface t (ren1 f v)
  | x => ren1 f x

def renR (f : Nat → Nat) : PV → PV
  | .tuple vs => .tuple (vs.map (ren f))
  | x => ren f x

def renBlk (f : Nat → Nat) : Blk → Blk
  | .box t cs => .box t (cs.map (ren f))
  | b => b

/-- no block is named but, it may be, in one step -/
def sh1 : PV → Bool
  | .agg _ | .tuple _ | .new _ _ | .newb _ _ | .fn _ _ | .iface _ _ => false
  | _ => true

def sh : PV → Bool
  | .agg cs => cs.all sh1
  | .fn _ caps => caps.all sh1
  | .iface _ v => sh1 v
  | x => sh1 x

def shR : PV → Bool
  | .tuple vs => vs.all sh
  | x => sh x

def okBlk : Blk → Bool
  | .res => false
  | .box _ cs => cs.all sh
  | _ => true

def boxRefs (h : Heap) (b : Nat) : List Nat :=
  match h[b]? with | some (.box _ cs) => cs.flatMap refs | _ => []

def addNew : List Nat → List Nat → List Nat
  | acc, [] => acc
  | acc, b :: bs => addNew (if acc.contains b then acc else acc ++ [b]) bs

/-- what is come to from some blocks -/
def close (h : Heap) : Nat → List Nat → List Nat
  | 0, ids => ids
  | n + 1, ids => close h n (addNew ids (ids.flatMap (boxRefs h)))

def nodup : List Nat → Bool
  | [] => true
  | b :: bs => !bs.contains b && nodup bs

def within (l ids : List Nat) : Bool := l.all fun b => ids.contains b

/-- all blocks that some lead to, those first -/
def reach (h : Heap) (roots : List Nat) : Option (List Nat) :=
  let ids := close h 3 (addNew [] roots)
  if nodup ids && ids.all (fun b => okBlk (h.getD b .res)) && within (ids.flatMap (boxRefs h)) ids && within roots ids then some ids else none

def heapOf (h : Heap) (ids : List Nat) : Heap := ids.map fun b => renBlk ids.idxOf (h.getD b .dead)

/-- what a function that only reads is given in the place of a row -/
def view1 (h : Heap) (x : PV) : Option PV :=
  match x with
  | .all _ | .own _ _ _ => (content h x).bind fun c => c.1.map fun t => .lst t c.2
  | x => some x

def mapO {α β : Type} (f : α → Option β) : List α → Option (List β)
  | [] => some []
  | x :: xs => (f x).bind fun y => (mapO f xs).bind fun ys => some (y :: ys)

def view (h : Heap) (x : PV) : Option PV :=
  match x with
  | .agg cs => (mapO (view1 h) cs).map .agg
  | x => view1 h x

/-- nothing of it can lead to what was handed over to be read -/
def flat1 : PV → Bool
  | .bool _ | .int _ _ | .str _ | .nils | .all _ | .own _ _ _ => true
  | _ => false

def flat : PV → Bool
  | .agg cs => cs.all flat1
  | x => flat1 x

def flatBlk (P : Program) : Blk → Bool
  | .arr t _ true => (kds P t).all scalarKd
  | _ => false

def flatT : PV → Bool
  | .tuple vs => vs.all flat
  | x => flat x

def flatR (P : Program) (h : Heap) (x : PV) : Bool := h.all (flatBlk P) && flatT x

def setMany : Heap → List Nat → List Blk → Heap
  | h, i :: is, b :: bs => setMany (h.set i b) is bs
  | h, _, _ => h

/-- new blocks: behind all, or where a place was kept -/
def addMany (al : Option Nat) (h : Heap) (bs : List Blk) : Heap :=
  match al with
  | none => h ++ bs
  | some s => setMany h (List.range' s bs.length) bs

def fwd (ids : List Nat) (base : Nat) (j : Nat) : Nat := if j < ids.length then ids.getD j 0 else base + (j - ids.length)

abbrev CallF := FuncId → List PV → List Blk → Option (PV × List Blk)

def resFree (h : Heap) (al : Option Nat) (n : Nat) : Bool :=
  match al with
  | none => true
  | some s => (List.range' s n).all fun i => match h[i]? with | some .res => true | _ => false

def baseOf (al : Option Nat) (h : Heap) : Nat := match al with | none => h.length | some s => s

/-- blocks that an operation looks at; those of them that it may change, and the places that were kept for it -/
abbrev Foot := List Nat × List Nat

def slotIds (al : Option Nat) (n : Nat) : List Nat := match al with | none => [] | some s => List.range' s n

def callCore (P : Program) (C : CallF) (M : FuncId → Bool) (al : Option Nat) (h : Heap) (f : FuncId) (xs : List PV) : Option ((PV × Heap) × Foot) :=
  (if M f then some xs else mapO (view h) xs).bind fun ys =>
    (reach h (ys.flatMap refs)).bind fun ids =>
      if ys.all sh && (M f || (xs.flatMap refs).all fun b => match h[b]? with | some (.arr _ _ _) => !ids.contains b | _ => true) then
        (C f (ys.map (ren ids.idxOf)) (heapOf h ids)).bind fun r =>
          let vids := (xs.flatMap refs).filter fun b => !ids.contains b
          let h1 := if ids.isEmpty && flatR P r.2 r.1 then h else vids.foldl freeze h
          let g := fwd ids (baseOf al h)
          let bs := r.2.map (renBlk g)
          if resFree h al (bs.drop ids.length).length && r.2.all okBlk && shR r.1 then
            some ((renR g r.1, addMany al (setMany h1 ids (bs.take ids.length)) (bs.drop ids.length)),
              (xs.flatMap refs ++ ids ++ slotIds al (bs.drop ids.length).length, (if ids.isEmpty && flatR P r.2 r.1 then [] else ids ++ vids) ++ slotIds al (bs.drop ids.length).length))
          else none
      else none

def callOp (P : Program) (C : CallF) (M : FuncId → Bool) (al : Option Nat) (h : Heap) (f : FuncId) (xs : List PV) : Option (PV × Heap) :=
  (callCore P C M al h f xs).map (·.1)

def builtinOp (P : Program) (b : Builtin) (tys : Array TypeId) (al : Option Nat) (h : Heap) (xs : List PV) : Option (PV × Heap) :=
  match b, xs with
  | .len, [x] => match tys[0]? with | some t => (lenOp P t h x).map fun v => (v, h) | none => none
  | .append, [s, x] => appendOp P tys h s x al
  | .min, x :: rest => (rest.foldl (fun acc y => acc.bind fun a => minmax false a y) (some x)).map fun v => (v, h)
  | .max, x :: rest => (rest.foldl (fun acc y => acc.bind fun a => minmax true a y) (some x)).map fun v => (v, h)
  | _, _ => none

def evs (ts : List PV) (xs : Array Operand) : List PV := xs.toList.map (ev ts)
def evp (ts : List PV) (ps : Array (Nat × Operand)) : List (Nat × PV) := ps.toList.map fun p => (p.1, ev ts p.2)
def evo (ts : List PV) (x : Option Operand) : Option PV := x.map (ev ts)

def keep (h : Heap) (x : Option PV) : Option (PV × Heap) := x.map fun v => (v, h)

def doOp (P : Program) (C : CallF) (M : FuncId → Bool) (al : Option Nat) (ts : List PV) (h : Heap) (op : Op) : Option (PV × Heap) :=
  match op with
  | .move x | .assign x => some (ev ts x, h)
  | .pick c a b => match ev ts c with
    | .bool true => some (ev ts a, h)
    | .bool false => some (ev ts b, h)
    | _ => none
  | .alloc t => (zeroPV P t).map fun z => let r := allocAt al h (.box t z.cells); (.ptr r.1 0, r.2)
  | .box t x => if okv h (ev ts x) then let r := allocAt al h (.box t (ev ts x).cells); some (.ptr r.1 0, r.2) else none
  | .build t ps => keep h (buildOp P t h (evp ts ps))
  | .buildSlice t len ps => buildSliceOp P t len (evp ts ps) al h
  | .load t a => keep h (loadOp P t h (ev ts a))
  | .store t a x => (storeOp P t h (ev ts a) (ev ts x)).map fun h' => (.top, h')
  | .nilCheck x => match ev ts x with
    | .fn f cs => some (.fn f cs, h)
    | a => if aliveP h a then some (a, h) else none
  | .binOp o t x y _ => keep h (binOp P o t (ev ts x) (ev ts y))
  | .unOp o _ x => keep h (unOp o (ev ts x))
  | .convert s d x => keep h (convertOp P s d h (ev ts x))
  | .makeFunc (.func f) first caps => if first.size = 0 then some (.fn f (evs ts caps), h) else none
  | .makeSlice t l c => makeSliceOp P t (ev ts l) (ev ts c) al h
  | .slice t x lo hi mx => keep h (sliceOp P t h (ev ts x) (evo ts lo) (evo ts hi) (evo ts mx))
  | .fieldAddr t x f => keep h (fieldAddrOp P t h (ev ts x) f)
  | .field t x f => keep h (fieldOp P t (ev ts x) f)
  | .indexAddr t x i => keep h (indexAddrOp P t h (ev ts x) (ev ts i))
  | .index t x i => keep h (indexOp P t (ev ts x) (ev ts i))
  | .extract x j => match ev ts x with | .tuple vs => keep h vs[j]? | _ => none
  | .call c => match c.callee with
    | .builtin b => builtinOp P b c.argTypes al h (evs ts c.args)
    | .value f => match ev ts f with
      | .fn g caps => callOp P C M al h g (evs ts c.args ++ caps)
      | _ => none
    | _ => none
  | _ => none

def refsT : PV → List Nat
  | .tuple vs => vs.flatMap refs
  | x => refs x

/-- how many new blocks an operation may make where it stands among others in no order -/
def slotsOf : Op → Nat
  | .alloc _ | .box _ _ | .buildSlice _ _ _ | .makeSlice _ _ _ => 1
  | .call c => match c.callee with | .builtin .append => 1 | .value _ => 3 | _ => 0
  | _ => 0

def writesOp : Op → Bool
  | .store _ _ _ | .buildSlice _ _ _ | .makeSlice _ _ _ => true
  | .call c => match c.callee with | .builtin .append => true | _ => false
  | _ => false

def footOp (al : Option Nat) (ts : List PV) (op : Op) : Foot :=
  let S := op.operands.toList.flatMap fun x => refsT (ev ts x)
  (S ++ slotIds al 1, (if writesOp op then S else []) ++ slotIds al 1)

def doOpF (P : Program) (C : CallF) (M : FuncId → Bool) (al : Option Nat) (ts : List PV) (h : Heap) (op : Op) : Option ((PV × Heap) × Foot) :=
  match op with
  | .call c => match c.callee with
    | .value f => match ev ts f with
      | .fn g caps => callCore P C M al h g (evs ts c.args ++ caps)
      | _ => none
    | _ => (doOp P C M al ts h op).map fun r => (r, footOp al ts op)
  | _ => (doOp P C M al ts h op).map fun r => (r, footOp al ts op)

def alFree (h : Heap) (al : Option Nat) : Bool :=
  match al with
  | none => true
  | some s => match h[s]? with | some .res => true | _ => false

def doOpG (P : Program) (C : CallF) (M : FuncId → Bool) (al : Option Nat) (ts : List PV) (h : Heap) (op : Op) : Option ((PV × Heap) × Foot) :=
  if alFree h al then (doOpF P C M al ts h op).map fun r => (r.1, (slotIds al 1 ++ r.2.1, r.2.2)) else none

def put (ts : List PV) (d : Option Tmp) (x : PV) : List PV :=
  match d with | some d => ts.set d x | none => ts

inductive Ex where
  | normal | exit (id : Nat) | ret

section
variable {R : Type} (P : Program) (C : CallF) (M : FuncId → Bool)

/-- operations, one behind the other; a test on which one hangs parts the ways -/
def runOps (ops : Array Oper) : List Oper → List PV → Heap → (List PV → Heap → Option R) → Option R
  | [], ts, h, k => k ts h
  | o :: rest, ts, h, k =>
    let go (ts : List PV) : Option R := (doOp P C M none ts h o.op).bind fun r => runOps ops rest (put ts o.dst r.1) r.2 k
    match o.guard with
    | none => go ts
    | some (j, want) =>
      match (ops[j]?).bind (·.dst) with
      | none => none
      | some d =>
        match ts.getD d .top with
        | .bool b =>
          if b = true then
            (if want then go (ts.set d (.bool true)) else runOps ops rest (put (ts.set d (.bool true)) o.dst (.tuple [])) h k)
          else
            (if want then runOps ops rest (put (ts.set d (.bool false)) o.dst (.tuple [])) h k else go (ts.set d (.bool false)))
        | .tuple [] => runOps ops rest (put ts o.dst (.tuple [])) h k
        | _ => none

def indep (F G : Foot) : Bool := F.2.all (fun b => !G.1.contains b) && G.2.all (fun b => !F.1.contains b)

/-- whom each operation waits for, at one or more removes -/
def ancs : List Oper → List (List Nat) → List (List Nat)
  | [], acc => acc
  | o :: rest, acc => ancs rest (acc ++ [addNew [] (o.after.toList.flatMap fun e => if Region.binds .any e then e.on :: acc.getD e.on [] else [])])

/-- of the text alone: each waits for earlier ones only, and two of which none waits for the other share no place -/
def staticOK (ops : Array Oper) : Bool :=
  let A := ancs ops.toList []
  (List.range ops.size).all fun k => match ops[k]? with
    | none => false
    | some o => o.after.all (fun e => !Region.binds .any e || decide (e.on < k)) &&
      (List.range k).all fun i => (A.getD k []).contains i || (match ops[i]? with | some oi => oi.apart ops o | none => false)

def dynOK (ops : Array Oper) (F : List Foot) : Bool :=
  let A := ancs ops.toList []
  (List.range ops.size).all fun k => (List.range k).all fun i => (A.getD k []).contains i || indep (F.getD i ([], [])) (F.getD k ([], []))

def slotAt (o : Oper) (s : Nat) : Option Nat := if slotsOf o.op = 0 then none else some s

def runDraw (ops : Array Oper) : List Oper → Nat → List Foot → List PV → Heap → (List PV → Heap → Option R) → Option R
  | [], _, F, ts, h, k => if dynOK ops F then k ts h else none
  | o :: rest, s, F, ts, h, k =>
    let go (ts : List PV) : Option R := (doOpG P C M (slotAt o s) ts h o.op).bind fun r => runDraw ops rest (s + slotsOf o.op) (F ++ [r.2]) (put ts o.dst r.1.1) r.1.2 k
    match o.guard with
    | none => go ts
    | some (j, want) =>
      match (ops[j]?).bind (·.dst) with
      | none => none
      | some d =>
        match ts.getD d .top with
        | .bool b =>
          if b = true then
            (if want then go (ts.set d (.bool true)) else runDraw ops rest (s + slotsOf o.op) (F ++ [([], [])]) (put (ts.set d (.bool true)) o.dst (.tuple [])) h k)
          else
            (if want then runDraw ops rest (s + slotsOf o.op) (F ++ [([], [])]) (put (ts.set d (.bool false)) o.dst (.tuple [])) h k else go (ts.set d (.bool false)))
        | .tuple [] => runDraw ops rest (s + slotsOf o.op) (F ++ [([], [])]) (put ts o.dst (.tuple [])) h k
        | _ => none

def reserve (ops : Array Oper) (h : Heap) : Heap := h ++ List.replicate ((ops.toList.map fun o => slotsOf o.op).sum) .res

/-- only some places are kept, and the blocks that they lead to, those that came in (k of them) first -/
def gc (k : Nat) (live : List Nat) (ts : List PV) (h : Heap) : Option (List PV × Heap) :=
  let ts1 := ts.mapIdx fun i v => if live.contains i then v else .top
  (reach h (List.range k ++ ts1.flatMap refs)).bind fun ids =>
    if ts1.all sh && decide (ids.take k = List.range k) then some (ts1.map (ren ids.idxOf), heapOf h ids) else none

def cleanL (kk : Nat) (l : Option (List Nat)) (ts : List PV) (h : Heap) : Option (List PV × Heap) :=
  match l with | some l => gc kk l ts h | none => some (ts, h)

/-- what is kept at a loop's head; behind it, where one goes on; and where one goes out of the function -/
def cleanX (kk : Nat) (live : Nat → Option (List Nat)) (i : Nat) : Ex → List PV → Heap → Option (List PV × Heap)
  | .normal, ts, h => cleanL kk (live i) ts h
  | .exit _, ts, h => match live (i + 1000000) with | some l => gc kk l ts h | none => cleanL kk (live i) ts h
  | .ret, ts, h => match live (i + 2000000) with | some l => gc kk l ts h | none => cleanL kk (live i) ts h

def loopN (run : List PV → Heap → (Ex → List PV → Heap → Option R) → Option R) (clean : Ex → List PV → Heap → Option (List PV × Heap)) :
    Nat → List PV → Heap → (Ex → List PV → Heap → Option R) → Option R
  | 0, _, _, _ => none
  | m + 1, ts, h, k =>
    (clean .normal ts h).bind fun c => run c.1 c.2 fun e ts' h' =>
      match e with
      | .normal => loopN run clean m ts' h' k
      | .exit i => (clean (.exit i) ts' h').bind fun c => k (.exit i) c.1 c.2
      | .ret => (clean .ret ts' h').bind fun c => k .ret c.1 c.2

def rid : Code → Nat
  | .region id _ _ => id
  | .seq a b => match a with | .skip => rid b | .label _ => rid b | a => rid a
  | .block _ b => rid b
  | .loop b => rid b
  | .scope b => rid b
  | _ => 0

def run (n kk : Nat) (live : Nat → Option (List Nat)) : Code → List PV → Heap → (Ex → List PV → Heap → Option R) → Option R
  | .skip, ts, h, k => k .normal ts h
  | .label _, ts, h, k => k .normal ts h
  | .region _ ops d, ts, h, k => if d = true then (if staticOK ops then runDraw P C M ops ops.toList h.length [] ts (reserve ops h) (k .normal) else none) else runOps P C M ops ops.toList ts h (k .normal)
  | .seq a b, ts, h, k => run n kk live a ts h fun e ts' h' =>
    match e with
    | .normal => run n kk live b ts' h' k
    | .exit i => k (.exit i) ts' h'
    | .ret => k .ret ts' h'
  | .cond c a b, ts, h, k =>
    match ev ts c with
    | .bool t => if t = true then run n kk live a ts h k else run n kk live b ts h k
    | _ => none
  | .block id a, ts, h, k => run n kk live a ts h fun e ts' h' =>
    match e with
    | .normal => k .normal ts' h'
    | .exit i => if i = id then k .normal ts' h' else k (.exit i) ts' h'
    | .ret => k .ret ts' h'
  | .loop a, ts, h, k =>
    loopN (run n kk live a) (cleanX kk live (rid a)) n ts h k
  | .scope a, ts, h, k => run n kk live a ts h k
  | .exit i, ts, h, k => k (.exit i) ts h
  | .ret, ts, h, k => k .ret ts h
  | _, _, _, _ => none
end

def resVal (P : Program) (ts : List PV) (h : Heap) : ResultVar → Option PV
  | .tmp t => some (ts.getD t .top)
  | .cell a t => loadOp P t h (ts.getD a .top)

def refsR : PV → List Nat
  | .tuple vs => vs.flatMap refs
  | x => refs x

def oneOf (vs : List PV) : PV := match vs with | [v] => v | vs => .tuple vs

def finish (P : Program) (fn : Func) (k : Nat) (ts : List PV) (h : Heap) : Option (PV × List Blk) :=
  (mapO (resVal P ts h) fn.results.toList).bind fun vs =>
    let raw := oneOf vs
    (reach h (List.range k ++ refsR raw)).bind fun ids =>
      if shR raw && decide (ids.take k = List.range k) then some (renR ids.idxOf raw, heapOf h ids) else none

/-- what a function is told to hand back: by tests -/
inductive Tr where
  | fail
  | ret (v : PV) (h : List Blk)
  | test (b : Bool) (x y : Tr)

def Tr.val : Tr → Option (PV × List Blk)
  | .fail => none
  | .ret v h => some (v, h)
  | .test b x y => if b = true then x.val else y.val

/-- functions that are given, not looked into -/
abbrev Ext := FuncId → Option (List PV → List Blk → Tr)

/-- the call of a function, with the blocks that it is handed; L: what is live at a loop's head -/
def call (P : Program) (X : Ext) (M : FuncId → Bool) (L : FuncId → Nat → Option (List Nat)) : Nat → CallF
  | 0, _, _, _ => none
  | n + 1, f, xs, hc =>
    match X f with
    | some g => (g xs hc).val
    | none =>
    match P.funcs[f]? with
    | none => none
    | some fn =>
      match fn.body with
      | none => none
      | some body =>
        run P (call P X M L n) M n hc.length (L f) body (xs ++ List.replicate (fn.ntmps - xs.length) .top) hc fun e ts h =>
          match e with
          | .exit _ => none
          | _ => finish P fn hc.length ts h

end Go.Pu
end

section
/- The pure machine, third part: what its data say of the model's memory. -/
namespace Go.Pu

structure Env where
  w : World
  h : Heap
  ρ : Nat → Option (Nat × Nat)
  im : Nat → Prop

/-- a slice value over a block of one's own -/
def SlcAt (P : Program) (E : Env) (b off n : Nat) (v : Value) : Prop :=
  match E.h[b]? with
  | some (.arr t es _) => off + n ≤ es.length ∧ ∃ sz A cap, elSize P t = some sz ∧ v = .slice A n cap ∧ n ≤ cap ∧
      (cap = 0 ∨ ∃ blk o c T, E.ρ b = some (blk, o) ∧ A = some ⟨blk, o + off * sz, none⟩ ∧ E.w.heap[blk]? = some (.cells c T (0, 0)) ∧ o + (off + cap) * sz ≤ c.size)
  | some .dead | some (.box _ _) => True
  | _ => False

def PtrAt (E : Env) (b off : Nat) (v : Value) : Prop :=
  match E.h[b]? with
  | some (.box _ _) => ∃ blk o, E.ρ b = some (blk, o) ∧ v = .pointer (some ⟨blk, o + off, none⟩)
  | some .dead | some (.arr _ _ _) => True
  | _ => False

def AptrAt (P : Program) (E : Env) (b i off : Nat) (v : Value) : Prop :=
  match E.h[b]? with
  | some (.arr t es _) => i < es.length ∧ ∃ sz blk o, elSize P t = some sz ∧ E.ρ b = some (blk, o) ∧ v = .pointer (some ⟨blk, o + i * sz + off, none⟩)
  | some .dead | some (.box _ _) => True
  | _ => False

inductive Rep (P : Program) (E : Env) : PV → Value → Prop
  | top (v : Value) : Rep P E .top v
  | bool (b : Bool) : Rep P E (.bool b) (.bool b)
  | int (k : IntKind) (n : Int) : Rep P E (.int k n) (.int k n)
  | str (s : ByteArray) : Rep P E (.str s) (.string s)
  | agg (cs : List PV) (vs : Array Value) (hl : cs.length = vs.size) (h : ∀ i, i < cs.length → Rep P E (cs.getD i .top) (vs.getD i undef)) : Rep P E (.agg cs) (.agg vs)
  | tuple (cs : List PV) (vs : Array Value) (hl : cs.length = vs.size) (h : ∀ i, i < cs.length → Rep P E (cs.getD i .top) (vs.getD i undef)) : Rep P E (.tuple cs) (.tuple vs)
  | nils : Rep P E .nils (.slice none 0 0)
  | lst0 (t : TypeId) (A : Option Addr) (cap : Nat) : Rep P E (.lst t []) (.slice A 0 cap)
  | lst (t : TypeId) (es : List (List PV)) (blk o cap sz : Nat) (c : Array Value) (T : TypeId) (fz : Nat × Nat)
      (hs : elSize P t = some sz) (hb : E.w.heap[blk]? = some (.cells c T fz)) (him : E.im blk) (hcap : es.length ≤ cap) (hlen : o + es.length * sz ≤ c.size)
      (hk : ∀ i, i < es.length → cellsOK (kds P t) (es.getD i []) = true)
      (hr : ∀ i j, i < es.length → j < sz → Rep P E ((es.getD i []).getD j .top) (c.getD (o + i * sz + j) undef)) :
      Rep P E (.lst t es) (.slice (some ⟨blk, o, none⟩) es.length cap)
  | all (b n : Nat) (v : Value) (hn : ∀ t es l, E.h[b]? = some (.arr t es l) → n = es.length) (h : SlcAt P E b 0 n v) : Rep P E (.all b) v
  | own (b off n : Nat) (v : Value) (h : SlcAt P E b off n v) : Rep P E (.own b off n) v
  | nilp : Rep P E .nilp (.pointer none)
  | ptr (b off : Nat) (v : Value) (h : PtrAt E b off v) : Rep P E (.ptr b off) v
  | aptr (b i off : Nat) (v : Value) (h : AptrAt P E b i off v) : Rep P E (.aptr b i off) v
  | eptr (t : TypeId) (cs : List PV) (off blk o : Nat) (c : Array Value) (T : TypeId) (fz : Nat × Nat)
      (hb : E.w.heap[blk]? = some (.cells c T fz)) (him : E.im blk) (hlen : o + cs.length ≤ c.size) (hk : cellsOK (kds P t) cs = true)
      (hr : ∀ j, j < cs.length → Rep P E (cs.getD j .top) (c.getD (o + j) undef)) :
      Rep P E (.eptr t cs off) (.pointer (some ⟨blk, o + off, none⟩))
  | fn (f : FuncId) (cs : List PV) (vs : Array Value) (hl : cs.length = vs.size) (h : ∀ i, i < cs.length → Rep P E (cs.getD i .top) (vs.getD i undef)) : Rep P E (.fn f cs) (.func (.func f) #[] vs)
  | nilfn : Rep P E .nilfn .nilFunc
  | iface (t : TypeId) (x : PV) (v : Value) (h : Rep P E x v) : Rep P E (.iface t x) (.iface t v)
  | nili : Rep P E .nili .nilIface

/-- the concrete block is written by those whose it is -/
def Owned (E : Env) (blk : Nat) : Prop :=
  ∃ b o, E.ρ b = some (blk, o) ∧ ((∃ t es, E.h[b]? = some (.arr t es true)) ∨ ∃ t cs, E.h[b]? = some (.box t cs))

/-- what a block of one's own holds -/
def BlkAt (P : Program) (E : Env) (b : Nat) : Prop :=
  match E.h[b]? with
  | some (.arr t es l) =>
    (∀ i, i < es.length → cellsOK (kds P t) (es.getD i []) = true) ∧
    match E.ρ b with
    | none => es = []
    | some (blk, o) => ∃ sz c T, elSize P t = some sz ∧ E.w.heap[blk]? = some (.cells c T (0, 0)) ∧ o + es.length * sz ≤ c.size ∧
        (∀ i j, i < es.length → j < sz → Rep P E ((es.getD i []).getD j .top) (c.getD (o + i * sz + j) undef)) ∧ (l = true → ¬ E.im blk) ∧ (l = false → E.im blk)
  | some (.box _ cs) =>
    ∃ blk o c T, E.ρ b = some (blk, o) ∧ E.w.heap[blk]? = some (.cells c T (0, 0)) ∧ o + cs.length ≤ c.size ∧
      (∀ j, j < cs.length → Rep P E (cs.getD j .top) (c.getD (o + j) undef)) ∧ ¬ E.im blk
  | _ => True

structure Inv (P : Program) (E : Env) : Prop where
  blk : ∀ b, BlkAt P E b
  inj : ∀ b b' blk o o', E.ρ b = some (blk, o) → E.ρ b' = some (blk, o') →
    ((∃ t es, E.h[b]? = some (.arr t es true)) ∨ ∃ t cs, E.h[b]? = some (.box t cs)) →
    ((∃ t es, E.h[b']? = some (.arr t es true)) ∨ ∃ t cs, E.h[b']? = some (.box t cs)) → b = b'
  imlt : ∀ blk, E.im blk → blk < E.w.heap.size

def Compat : Option Blk → Option Blk → Prop
  | some .dead, some .dead => True
  | some .res, some _ => True
  | some (.arr _ _ _), some .dead => True
  | some (.box _ _), some .dead => True
  | some (.arr t es l), some (.arr t' es' l') => t = t' ∧ es'.length = es.length ∧ (l' = true → l = true)
  | some (.box t cs), some (.box t' cs') => t = t' ∧ cs'.length = cs.length
  | none, _ => True
  | _, _ => False

structure Trans (E E' : Env) : Prop where
  compat : ∀ b : Nat, Compat E.h[b]? E'.h[b]?
  rho : ∀ b : Nat, b < E.h.length → E.h[b]? ≠ some .res → E'.h[b]? ≠ some .dead → E'.ρ b = E.ρ b
  im : ∀ blk, E.im blk → E'.im blk
  size : E.w.heap.size ≤ E'.w.heap.size
  os : E'.w.os = E.w.os
  tape : E'.w.tape = E.w.tape
  output : E'.w.output = E.w.output
  frame : ∀ blk, blk < E.w.heap.size → ¬ Owned E blk → E'.w.heap[blk]? = E.w.heap[blk]?
  shape : ∀ (blk : Nat) (c : Array Value) (T : TypeId) (fz : Nat × Nat), E.w.heap[blk]? = some (.cells c T fz) → ∃ c' : Array Value, E'.w.heap[blk]? = some (.cells c' T fz) ∧ c'.size = c.size
  owned : ∀ blk, blk < E.w.heap.size → Owned E' blk → Owned E blk
  imold : ∀ blk, blk < E.w.heap.size → E'.im blk → E.im blk ∨ Owned E blk

theorem Compat.refl : ∀ x : Option Blk, Compat x x
  | none => trivial
  | some .dead => trivial
  | some .res => trivial
  | some (.arr _ _ _) => ⟨rfl, rfl, id⟩
  | some (.box _ _) => ⟨rfl, rfl⟩

theorem Compat.trans {x y z : Option Blk} (h : Compat x y) (k : Compat y z) : Compat x z := by
  cases x with
  | none => trivial
  | some a => cases y with
    | none => cases a <;> exact h.elim
    | some b => cases z with
      | none => cases b <;> exact k.elim
      | some c =>
        cases a <;> cases b <;> cases c <;> first
          | trivial
          | exact h.elim
          | exact k.elim
          | exact ⟨h.1.trans k.1, k.2.1.trans h.2.1, fun z => h.2.2 (k.2.2 z)⟩
          | exact ⟨h.1.trans k.1, k.2.trans h.2⟩

theorem Trans.refl (E : Env) : Trans E E where
  compat _ := Compat.refl _
  rho _ _ _ _ := rfl
  im _ h := h
  size := Nat.le_refl _
  os := rfl
  tape := rfl
  output := rfl
  frame _ _ _ := rfl
  shape _ c _ _ h := ⟨c, h, rfl⟩
  owned _ _ h := h
  imold _ _ h := .inl h

theorem Compat.some_left {x y : Option Blk} (h : Compat x y) (hx : x ≠ none) : y ≠ none := by
  cases x with
  | none => exact absurd rfl hx
  | some b => cases y with
    | none => cases b <;> exact h.elim
    | some _ => simp

theorem Trans.len {E E' : Env} (h : Trans E E') : E.h.length ≤ E'.h.length := by
  rcases Nat.lt_or_ge E'.h.length E.h.length with hlt | hge
  · have hc := h.compat E'.h.length
    have h1 : E.h[E'.h.length]? ≠ none := by simp [hlt]
    exact absurd (by simp) (hc.some_left h1)
  · exact hge

theorem Compat.dead {y : Option Blk} (h : Compat (some .dead) y) : y = some .dead := by
  cases y with
  | none => exact h.elim
  | some b => cases b <;> first | rfl | exact h.elim

theorem Compat.res {x : Option Blk} (h : Compat x (some .res)) : x = none ∨ x = some .res := by
  cases x with
  | none => exact .inl rfl
  | some b => cases b <;> first | exact .inr rfl | exact h.elim

theorem Trans.trans {E E' E'' : Env} (h : Trans E E') (k : Trans E' E'') : Trans E E'' where
  compat b := (h.compat b).trans (k.compat b)
  rho b hb hn hd := by
    have h1 : E'.h[b]? ≠ some .dead := fun e => hd (by have := k.compat b; rw [e] at this; exact this.dead)
    have h2 : E'.h[b]? ≠ some .res := fun e => by
      have := h.compat b
      rw [e] at this
      rcases this.res with hh | hh
      · simp [List.getElem?_eq_getElem hb] at hh
      · exact hn hh
    rw [k.rho b (Nat.lt_of_lt_of_le hb h.len) h2 hd, h.rho b hb hn h1]
  im blk hi := k.im blk (h.im blk hi)
  size := Nat.le_trans h.size k.size
  os := k.os.trans h.os
  tape := k.tape.trans h.tape
  output := k.output.trans h.output
  frame blk hb ho := by
    rw [k.frame blk (Nat.lt_of_lt_of_le hb h.size) (fun x => ho (h.owned blk hb x)), h.frame blk hb ho]
  shape blk c T fz hc := by
    obtain ⟨c1, h1, e1⟩ := h.shape blk c T fz hc
    obtain ⟨c2, h2, e2⟩ := k.shape blk c1 T fz h1
    exact ⟨c2, h2, e2.trans e1⟩
  owned blk hb ho := h.owned blk hb (k.owned blk (Nat.lt_of_lt_of_le hb h.size) ho)
  imold blk hb hm := by
    rcases k.imold blk (Nat.lt_of_lt_of_le hb h.size) hm with h1 | h1
    · exact h.imold blk hb h1
    · exact .inr (h.owned blk hb h1)

section
variable {P : Program} {E E' : Env}

theorem Inv.not_owned (hI : Inv P E) {blk : Nat} (h : E.im blk) : ¬ Owned E blk := by
  rintro ⟨b, o, hr, hh⟩
  have hb := hI.blk b
  unfold BlkAt at hb
  rcases hh with ⟨t, es, he⟩ | ⟨t, cs, he⟩
  · rw [he] at hb
    simp only [hr] at hb
    obtain ⟨_, sz, c, T, _, _, _, _, h1, _⟩ := hb
    exact h1 trivial h
  · rw [he] at hb
    simp only at hb
    obtain ⟨blk', o', c, T, h0, _, _, _, h1⟩ := hb
    rw [hr] at h0
    obtain ⟨rfl, rfl⟩ := Prod.mk.inj (Option.some.inj h0)
    exact h1 h

theorem Trans.im_same (hI : Inv P E) (h : Trans E E') {blk : Nat} (hi : E.im blk) : E'.w.heap[blk]? = E.w.heap[blk]? :=
  h.frame blk (hI.imlt blk hi) (hI.not_owned hi)

theorem lt_of_some {h : Heap} {b : Nat} {x : Blk} (e : h[b]? = some x) : b < h.length := by
  rcases Nat.lt_or_ge b h.length with hlt | hge
  · exact hlt
  · simp [List.getElem?_eq_none hge] at e

theorem SlcAt.mono (h : Trans E E') {b off n : Nat} {v : Value} (hb : SlcAt P E b off n v) : SlcAt P E' b off n v := by
  unfold SlcAt at hb ⊢
  have hc := h.compat b
  cases hx : E.h[b]? with
  | none => rw [hx] at hb; exact hb.elim
  | some x =>
    have hr := h.rho b (lt_of_some hx)
    rw [hx] at hb hc hr
    cases hy : E'.h[b]? with
    | none => rw [hy] at hc; cases x <;> exact hc.elim
    | some y =>
      rw [hy] at hc hr
      cases x <;> cases y <;> first | trivial | exact hc.elim | exact hb.elim | skip
      rename_i t es l t' es' l'
      obtain ⟨rfl, he, _⟩ := hc
      obtain ⟨h0, sz, A, cap, hs, hv, hn, hh⟩ := hb
      refine ⟨by rw [he]; exact h0, sz, A, cap, hs, hv, hn, ?_⟩
      rcases hh with hh | ⟨blk, o, c, T, h1, h2, h3, h4⟩
      · exact .inl hh
      · obtain ⟨c', h5, h6⟩ := h.shape blk c T _ h3
        exact .inr ⟨blk, o, c', T, by rw [hr (by simp) (by simp), h1], h2, h5, by omega⟩

theorem PtrAt.mono (h : Trans E E') {b off : Nat} {v : Value} (hb : PtrAt E b off v) : PtrAt E' b off v := by
  unfold PtrAt at hb ⊢
  have hc := h.compat b
  cases hx : E.h[b]? with
  | none => rw [hx] at hb; exact hb.elim
  | some x =>
    have hr := h.rho b (lt_of_some hx)
    rw [hx] at hb hc hr
    cases hy : E'.h[b]? with
    | none => rw [hy] at hc; cases x <;> exact hc.elim
    | some y =>
      rw [hy] at hc hr
      cases x <;> cases y <;> first | trivial | exact hc.elim | exact hb.elim | skip
      obtain ⟨blk, o, h1, h2⟩ := hb
      exact ⟨blk, o, by rw [hr (by simp) (by simp), h1], h2⟩

theorem AptrAt.mono (h : Trans E E') {b i off : Nat} {v : Value} (hb : AptrAt P E b i off v) : AptrAt P E' b i off v := by
  unfold AptrAt at hb ⊢
  have hc := h.compat b
  cases hx : E.h[b]? with
  | none => rw [hx] at hb; exact hb.elim
  | some x =>
    have hr := h.rho b (lt_of_some hx)
    rw [hx] at hb hc hr
    cases hy : E'.h[b]? with
    | none => rw [hy] at hc; cases x <;> exact hc.elim
    | some y =>
      rw [hy] at hc hr
      cases x <;> cases y <;> first | trivial | exact hc.elim | exact hb.elim | skip
      obtain ⟨rfl, he, _⟩ := hc
      obtain ⟨h0, sz, blk, o, hs, h1, h2⟩ := hb
      exact ⟨by rw [he]; exact h0, sz, blk, o, hs, by rw [hr (by simp) (by simp), h1], h2⟩

/-- what is told of a value holds on -/
theorem Rep.mono (hI : Inv P E) (h : Trans E E') {x : PV} {v : Value} (hr : Rep P E x v) : Rep P E' x v := by
  induction hr with
  | top v => exact .top v
  | bool b => exact .bool b
  | int k n => exact .int k n
  | str s => exact .str s
  | agg cs vs hl _ ih => exact .agg cs vs hl ih
  | tuple cs vs hl _ ih => exact .tuple cs vs hl ih
  | nils => exact .nils
  | lst0 t A cap => exact .lst0 t A cap
  | lst t es blk o cap sz c T fz hs hb him hcap hlen hk _ ih =>
    exact .lst t es blk o cap sz c T fz hs (by rw [h.im_same hI him]; exact hb) (h.im blk him) hcap hlen hk ih
  | all b n v hn hh =>
    refine .all b n v ?_ (hh.mono h)
    intro t es l he
    have hc := h.compat b
    rw [he] at hc
    cases hx : E.h[b]? with
    | none => unfold SlcAt at hh; rw [hx] at hh; exact hh.elim
    | some x =>
      rw [hx] at hc
      cases x with
      | arr t' es' l' => rw [hn t' es' l' hx, hc.2.1]
      | dead => exact hc.elim
      | box => exact hc.elim
      | res => unfold SlcAt at hh; rw [hx] at hh; exact hh.elim
  | own b off n v hh => exact .own b off n v (hh.mono h)
  | nilp => exact .nilp
  | ptr b off v hh => exact .ptr b off v (hh.mono h)
  | aptr b i off v hh => exact .aptr b i off v (hh.mono h)
  | eptr t cs off blk o c T fz hb him hlen hk _ ih =>
    exact .eptr t cs off blk o c T fz (by rw [h.im_same hI him]; exact hb) (h.im blk him) hlen hk ih
  | fn f cs vs hl _ ih => exact .fn f cs vs hl ih
  | nilfn => exact .nilfn
  | iface t x v _ ih => exact .iface t x v ih
  | nili => exact .nili

end
end Go.Pu
end

section
/- The pure machine, fourth part: operations that only reckon or read. -/
set_option linter.unusedSimpArgs false
namespace Go.Pu

section
variable {P : Program} {E : Env} (w : World)

theorem run_typeInfo {t : TypeId} {i : TypeInfo} (h : P.info? t = some i) : (typeInfo t).run P w = .ok i w := by
  simp [typeInfo, h]

theorem run_sizeOf {t : TypeId} {i : TypeInfo} (h : P.info? t = some i) : (sizeOf t).run P w = .ok i.size w := by
  simp [sizeOf, run_typeInfo w h]

theorem run_zeroValue {t : TypeId} {i : TypeInfo} {z : Value} (h : P.info? t = some i) (hz : i.zero = some z) : (zeroValue t).run P w = .ok z w := by
  simp [zeroValue, run_typeInfo w h, hz]

def aggT (d : TypeDesc) : Bool := match d with | .struct _ | .array _ _ => true | _ => false

theorem run_isAgg {t : TypeId} {d : TypeDesc} (h : P.underlying t = some d) : (isAgg t).run P w = .ok (aggT d) w := by
  simp only [isAgg, Sem.run_bind, run_underlying h, Result.andThen_ok]
  cases d <;> rfl

theorem cell_of {w : World} {blk k : Nat} {c : Array Value} {T : TypeId} {fz : Nat × Nat} (h : w.heap[blk]? = some (.cells c T fz)) (hk : k < c.size) :
    w.cell? ⟨blk, k, none⟩ = some (c.getD k undef) := by
  simp [World.cell?, h, Array.getElem?_eq_getElem hk, Array.getD, hk]

theorem run_loadCells_at {blk o n : Nat} {c : Array Value} {T : TypeId} {fz : Nat × Nat} (h : w.heap[blk]? = some (.cells c T fz)) (hn : o + n ≤ c.size) :
    (loadCells ⟨blk, o, none⟩ n).run P w = .ok ((List.range n).map fun j => c.getD (o + j) undef).toArray w :=
  run_loadCells w _ n _ fun j hj => by rw [Addr.add_lit, cell_of h (by omega)]

theorem run_load_at {blk o : Nat} {c : Array Value} {T : TypeId} {fz : Nat × Nat} (h : w.heap[blk]? = some (.cells c T fz)) (hn : o < c.size) :
    (load ⟨blk, o, none⟩).run P w = .ok (c.getD o undef) w := by
  rw [run_load, cell_of h hn]

theorem getD_map_range (n : Nat) (f : Nat → Value) (j : Nat) (hj : j < n) : ((List.range n).map f).toArray.getD j undef = f j := by
  simp [Array.getD, hj]

/-- a variable that is loaded: its cells lie in a block -/
theorem run_loadVar_at {t : TypeId} {d : TypeDesc} {i : TypeInfo} (hd : P.underlying t = some d) (hi : P.info? t = some i) {blk o : Nat} {c : Array Value} {T : TypeId} {fz : Nat × Nat}
    (h : w.heap[blk]? = some (.cells c T fz)) (hn : o + (if aggT d then i.size else 1) ≤ c.size) :
    (loadVar t ⟨blk, o, none⟩).run P w = .ok (if aggT d then .agg ((List.range i.size).map fun j => c.getD (o + j) undef).toArray else c.getD o undef) w := by
  simp only [loadVar, Sem.run_bind, run_isAgg w hd, Result.andThen_ok, Sem.run_ite]
  cases ha : aggT d
  · simp only [ha] at hn
    simp only [Bool.false_eq_true, if_false] at hn ⊢
    exact run_load_at w h (by omega)
  · simp only [ha, if_true] at hn
    simp only [if_true, Sem.run_bind, run_sizeOf w hi, Result.andThen_ok, run_loadCells_at w h hn, Sem.run_pure]

theorem loadBox_eq {t : TypeId} {d : TypeDesc} {i : TypeInfo} (hd : P.underlying t = some d) (hi : P.info? t = some i) (cs : List PV) (off : Nat) :
    loadBox P t cs off = if aggT d then (if off + i.size ≤ cs.length then some (.agg ((cs.drop off).take i.size)) else none) else if off < cs.length then some (cs.getD off .top) else none := by
  unfold loadBox
  rw [hd, hi]
  cases d <;> rfl

theorem underlying_info {t : TypeId} {d : TypeDesc} (h : P.underlying t = some d) : ∃ i, P.info? t = some i := by
  unfold Program.underlying at h
  cases hi : P.info? t with
  | some i => exact ⟨i, rfl⟩
  | none => simp [hi] at h

theorem loadBox_some {t : TypeId} {cs : List PV} {off : Nat} {x : PV} (h : loadBox P t cs off = some x) : ∃ d i, P.underlying t = some d ∧ P.info? t = some i := by
  unfold loadBox at h
  cases hd : P.underlying t with
  | none => rw [hd] at h; simp at h
  | some d => obtain ⟨i, hi⟩ := underlying_info hd; exact ⟨d, i, rfl, hi⟩

theorem getD_drop_take (cs : List PV) (off n j : Nat) (hj : j < n) : ((cs.drop off).take n).getD j .top = cs.getD (off + j) .top := by
  simp [List.getD, List.getElem?_take, hj, List.getElem?_drop]

/-- what is read of cells that are told one by one -/
theorem loadBox_rep {t : TypeId} {cs : List PV} {off : Nat} {x : PV} (h : loadBox P t cs off = some x) {blk o : Nat} {c : Array Value} {T : TypeId} {fz : Nat × Nat}
    (hb : w.heap[blk]? = some (.cells c T fz)) (hn : o + cs.length ≤ c.size) (hr : ∀ j, j < cs.length → Rep P E (cs.getD j .top) (c.getD (o + j) undef)) :
    ∃ v, (loadVar t ⟨blk, o + off, none⟩).run P w = .ok v w ∧ Rep P E x v := by
  obtain ⟨d, i, hd, hi⟩ := loadBox_some h
  rw [loadBox_eq hd hi] at h
  cases ha : aggT d
  · simp only [ha, Bool.false_eq_true, if_false] at h
    split at h
    · rename_i hlt
      obtain rfl := Option.some.inj h
      refine ⟨c.getD (o + off) undef, ?_, hr off hlt⟩
      rw [run_loadVar_at w hd hi hb (by simp [ha]; omega), ha]
      simp
    · simp at h
  · simp only [ha, if_true] at h
    split at h
    · rename_i hle
      obtain rfl := Option.some.inj h
      refine ⟨.agg ((List.range i.size).map fun j => c.getD (o + off + j) undef).toArray, ?_, ?_⟩
      · rw [run_loadVar_at w hd hi hb (by simp [ha]; omega), ha]
        simp
      · refine .agg _ _ (by simp; omega) fun j hj => ?_
        have hj' : j < i.size := by simp at hj; omega
        rw [getD_drop_take _ _ _ _ hj', getD_map_range _ _ _ hj', Nat.add_assoc]
        exact hr _ (by omega)
    · simp at h

/-- the same of a struct's value -/
theorem part_rep {t : TypeId} {cs : List PV} {off : Nat} {x : PV} (h : part P t cs off = some x) {vs : Array Value} (hl : cs.length = vs.size)
    (hr : ∀ j, j < cs.length → Rep P E (cs.getD j .top) (vs.getD j undef)) : ∃ v, (Go.part t vs off).run P w = .ok v w ∧ Rep P E x v := by
  unfold part at h
  obtain ⟨d, i, hd, hi⟩ := loadBox_some h
  rw [loadBox_eq hd hi] at h
  simp only [Go.part, Sem.run_bind, run_isAgg w hd, Result.andThen_ok, Sem.run_ite]
  cases ha : aggT d
  · simp only [ha, Bool.false_eq_true, if_false] at h ⊢
    split at h
    · rename_i hlt
      obtain rfl := Option.some.inj h
      have hv : vs[off]? = some (vs.getD off undef) := by
        have : off < vs.size := by omega
        simp [Array.getD, this]
      refine ⟨vs.getD off undef, ?_, hr off hlt⟩
      rw [hv]
      simp
    · simp at h
  · simp only [ha, if_true] at h ⊢
    split at h
    · rename_i hle
      obtain rfl := Option.some.inj h
      refine ⟨.agg (vs.extract off (off + i.size)), by simp [run_sizeOf w hi], ?_⟩
      refine .agg _ _ (by simp; omega) fun j hj => ?_
      have hj' : j < i.size := by simp at hj; omega
      rw [getD_drop_take _ _ _ _ hj']
      have : (vs.extract off (off + i.size)).getD j undef = vs.getD (off + j) undef := by
        have h1 : off + j < vs.size := by omega
        have h2 : j < min (off + i.size) vs.size - off := by omega
        simp [Array.getD, h1, h2]
      rw [this]
      exact hr _ (by omega)
    · simp at h

theorem cellsOK_getD : ∀ {ks : List Kd} {cs : List PV}, cellsOK ks cs = true → cs.length = ks.length ∧ ∀ j (k : Kd), ks[j]? = some k → cellOK k (cs.getD j .top) = true
  | [], [], _ => ⟨rfl, fun j k h => by simp at h⟩
  | k :: ks, c :: cs, h => by
    simp only [cellsOK, Bool.and_eq_true] at h
    obtain ⟨h1, h2⟩ := cellsOK_getD h.2
    refine ⟨by simp [h1], fun j k' hj => ?_⟩
    cases j with
    | zero => simp at hj; subst hj; simpa using h.1
    | succ j => simp at hj; simpa using h2 j k' hj
  | [], _ :: _, h => by simp [cellsOK] at h
  | _ :: _, [], h => by simp [cellsOK] at h

theorem proj_cellOK : ∀ {k : Kd} {c : PV}, cellOK k c = true → proj k c = c := by
  intro k c h
  cases k <;> cases c <;> simp_all [cellOK, proj, PV.toI, PV.toB, PV.toS, PV.toL]

theorem projs_getD : ∀ (ks : List Kd) (cs : List PV) (off j : Nat) (k : Kd), ks[j]? = some k → (projs ks cs off).getD j .top = proj k (cs.getD (off + j) .top)
  | [], _, _, j, k, h => by simp at h
  | k :: ks, cs, off, 0, k', h => by simp at h; subst h; simp [projs]
  | k :: ks, cs, off, j + 1, k', h => by
    simp at h
    have := projs_getD ks cs (off + 1) j k' h
    simp only [projs, List.getD_cons_succ, this]
    congr 2
    omega

theorem projs_length : ∀ (ks : List Kd) (cs : List PV) (off : Nat), (projs ks cs off).length = ks.length
  | [], _, _ => rfl
  | _ :: ks, cs, off => by simp [projs, projs_length ks]

theorem loadEl_rep {t T : TypeId} {cs : List PV} {off : Nat} {x : PV} (h : loadEl P t T cs off = some x) {blk o : Nat} {c : Array Value} {T' : TypeId} {fz : Nat × Nat}
    (hb : w.heap[blk]? = some (.cells c T' fz)) (hn : o + cs.length ≤ c.size) (hk : cellsOK (kds P T) cs = true) (hr : ∀ j, j < cs.length → Rep P E (cs.getD j .top) (c.getD (o + j) undef)) :
    ∃ v, (loadVar t ⟨blk, o + off, none⟩).run P w = .ok v w ∧ Rep P E x v := by
  obtain ⟨hlen, hcell⟩ := cellsOK_getD hk
  unfold loadEl at h
  cases hd : P.underlying t with
  | none => rw [hd] at h; simp at h
  | some d =>
    obtain ⟨i, hi⟩ := underlying_info hd
    rw [hd, hi] at h
    have key : (aggT d = true ∧ (if kds P t = ((kds P T).drop off).take i.size ∧ (kds P t).length = i.size ∧ off + i.size ≤ (kds P T).length then some (PV.agg (projs (kds P t) cs off)) else none) = some x) ∨
        (aggT d = false ∧ (if (kds P T)[off]? = some (kdOf P t) then some (proj (kdOf P t) (cs.getD off .top)) else none) = some x) := by
      cases d <;> first | exact .inl ⟨rfl, h⟩ | exact .inr ⟨rfl, h⟩
    rcases key with ⟨ha, h⟩ | ⟨ha, h⟩
    · split at h
      · rename_i hc
        obtain ⟨hk1, hk2, hk3⟩ := hc
        obtain rfl := Option.some.inj h
        refine ⟨.agg ((List.range i.size).map fun j => c.getD (o + off + j) undef).toArray, ?_, ?_⟩
        · rw [run_loadVar_at w hd hi hb (by simp [ha]; omega), ha]
          simp
        · refine .agg _ _ (by simp [projs_length, hk2]) fun j hj => ?_
          have hj' : j < i.size := by simpa [projs_length, hk2] using hj
          have hkj : (kds P t)[j]? = some ((kds P t)[j]'(by omega)) := by simp
          have hTj : (kds P T)[off + j]? = some ((kds P t)[j]'(by omega)) := by
            rw [← hkj, hk1]
            simp [List.getElem?_take, hj', List.getElem?_drop]
          rw [projs_getD _ _ _ _ _ hkj, proj_cellOK (hcell _ _ hTj), getD_map_range _ _ _ hj', Nat.add_assoc]
          exact hr _ (by omega)
      · simp at h
    · split at h
      · rename_i hc
        obtain rfl := Option.some.inj h
        have hlt : off < (kds P T).length := by
          rcases Nat.lt_or_ge off (kds P T).length with hh | hh
          · exact hh
          · simp [List.getElem?_eq_none hh] at hc
        refine ⟨c.getD (o + off) undef, ?_, ?_⟩
        · rw [run_loadVar_at w hd hi hb (by simp [ha]; omega), ha]
          simp
        · rw [proj_cellOK (hcell _ _ hc)]
          exact hr _ (by omega)
      · simp at h

theorem elSize_zero {t : TypeId} {sz : Nat} (h : elSize P t = some sz) : ∃ i z, P.info? t = some i ∧ i.size = sz ∧ sz = (kds P t).length ∧ 0 < sz ∧ i.zero = some z ∧ z.cells.size = sz := by
  unfold elSize at h
  cases hi : P.info? t with
  | none => simp [hi] at h
  | some i =>
    simp only [hi, Option.bind_some] at h
    split at h
    · rename_i hc
      obtain rfl := Option.some.inj h
      obtain ⟨c1, c2, c3⟩ := hc
      cases hz : i.zero with
      | none => simp [hz] at c3
      | some z =>
        simp [hz] at c3
        exact ⟨i, z, rfl, rfl, c1, c2, hz, c3⟩
    · simp at h

theorem elSize_spec {t : TypeId} {sz : Nat} (h : elSize P t = some sz) : ∃ i, P.info? t = some i ∧ i.size = sz ∧ sz = (kds P t).length ∧ 0 < sz := by
  obtain ⟨i, z, h1, h2, h3, h4, _, _⟩ := elSize_zero h
  exact ⟨i, h1, h2, h3, h4⟩

end
end Go.Pu
end

section
/- The pure machine, fifth part: operations that change nothing. -/
set_option linter.unusedSimpArgs false
namespace Go.Pu

section
variable {P : Program} {E : Env}

theorem rep_const1 (v : Value) : Rep P E (ofConst1 v) v := by
  unfold ofConst1
  split <;> constructor

theorem rep_const (v : Value) : Rep P E (ofConst v) v := by
  unfold ofConst
  split
  · rename_i cs
    refine .agg _ _ (by simp) fun i hi => ?_
    have hi' : i < cs.size := by simpa using hi
    have h1 : (cs.toList.map ofConst1).getD i .top = ofConst1 (cs.getD i undef) := by simp [List.getD, Array.getD, hi']
    rw [h1]
    exact rep_const1 _
  · exact rep_const1 _

/-- the temporaries are told -/
structure RepT (P : Program) (E : Env) (ts : List PV) (a : Act) : Prop where
  len : ts.length = a.tmps.size
  rep : ∀ i, i < ts.length → Rep P E (ts.getD i .top) (a.tmps.getD i undef)

theorem RepT.mono {E' : Env} (hI : Inv P E) (h : Trans E E') {ts : List PV} {a : Act} (hT : RepT P E ts a) : RepT P E' ts a :=
  ⟨hT.len, fun i hi => (hT.rep i hi).mono hI h⟩

theorem RepT.ev {ts : List PV} {a : Act} (hT : RepT P E ts a) (x : Operand) : Rep P E (ev ts x) (a.eval x) := by
  cases x with
  | tmp t =>
    simp only [Go.Pu.ev, Act.eval]
    rcases Nat.lt_or_ge t ts.length with h | h
    · exact hT.rep t h
    · rw [List.getD, List.getElem?_eq_none h]
      exact .top _
  | const v => exact rep_const v
  | global g => exact .top _
  | func f => exact .fn f [] #[] rfl (fun i hi => by simp at hi)

theorem getD_set_same {α : Type} (l : List α) (d : Nat) (x z : α) (h : d < l.length) : (l.set d x).getD d z = x := by
  simp [List.getD, List.getElem?_set, h]

theorem getD_set_other {α : Type} (l : List α) (d i : Nat) (x z : α) (h : d ≠ i) : (l.set d x).getD i z = l.getD i z := by
  simp [List.getD, List.getElem?_set, h]

theorem RepT.put {ts : List PV} {a : Act} (hT : RepT P E ts a) (d : Option Tmp) {x : PV} {v : Value} (hx : Rep P E x v) : RepT P E (put ts d x) (a.put d v) := by
  cases d with
  | none => exact hT
  | some d =>
    refine ⟨by simp [Go.Pu.put, Act.put, hT.len], fun i hi => ?_⟩
    have hi' : i < ts.length := by simpa [Go.Pu.put] using hi
    have hs : i < a.tmps.size := by rw [← hT.len]; exact hi'
    simp only [Go.Pu.put, Act.put]
    by_cases e : d = i
    · subst e
      rw [getD_set_same _ _ _ _ hi']
      simp only [Array.getD, Array.size_setIfInBounds, hs, dif_pos]
      simpa using hx
    · rw [getD_set_other _ _ _ _ _ e]
      have h1 : (a.tmps.setIfInBounds d v).getD i undef = a.tmps.getD i undef := by
        simp [Array.getD, hs, Array.getElem_setIfInBounds, e]
      rw [h1]
      exact hT.rep i hi'

/-- a place that is told anew, of the same value -/
theorem RepT.re {ts : List PV} {a : Act} (hT : RepT P E ts a) (d : Nat) {x : PV} (hx : Rep P E x (a.tmps.getD d undef)) : RepT P E (ts.set d x) a := by
  refine ⟨by simp [hT.len], fun i hi => ?_⟩
  have hi' : i < ts.length := by simpa using hi
  by_cases e : d = i
  · subst e
    rw [getD_set_same _ _ _ _ hi']
    exact hx
  · rw [getD_set_other _ _ _ _ _ e]
    exact hT.rep i hi'

theorem Rep.bool_inv {b : Bool} {v : Value} (h : Rep P E (.bool b) v) : v = .bool b := by cases h; rfl
theorem Rep.int_inv {k : IntKind} {n : Int} {v : Value} (h : Rep P E (.int k n) v) : v = .int k n := by cases h; rfl
theorem Rep.str_inv {s : ByteArray} {v : Value} (h : Rep P E (.str s) v) : v = .string s := by cases h; rfl
theorem Rep.nils_inv {v : Value} (h : Rep P E .nils v) : v = .slice none 0 0 := by cases h; rfl

theorem strOp_run {op : BinOp} {x y : ByteArray} {r : PV} (h : strOp op x y = some r) (w : World) : ∃ v, (Op.stringOp op x y).run P w = .ok v w ∧ Rep P E r v := by
  unfold strOp at h
  cases op <;> simp only [Option.some.injEq, reduceCtorEq] at h
  case add =>
    split at h
    · rename_i hc
      obtain rfl := Option.some.inj h
      refine ⟨.string (x ++ y), ?_, .str _⟩
      have : ¬ ((x.size + y.size : Nat) : Int) > IntKind.i64.max := by
        have : IntKind.i64.max = 9223372036854775807 := by decide
        rw [this]; omega
      unfold Op.stringOp
      simp only []
      rw [if_neg this]
      rfl
    · simp at h
  all_goals
    subst h
    exact ⟨_, rfl, .bool _⟩

theorem bitsOp_run {op : BinOp} {k : IntKind} {a b : Int} {r : PV} (h : bitsOp op k a b = some r) (w : World) : ∃ v, (Op.intBits op k a b).run P w = .ok v w ∧ Rep P E r v := by
  unfold bitsOp at h
  cases op <;> simp only [Option.some.injEq, reduceCtorEq] at h
  all_goals
    subst h
    exact ⟨_, rfl, .int _ _⟩

theorem shiftOp_run {op : BinOp} {k yk : IntKind} {a b : Int} {r : PV} (h : shiftOp op k a b = some r) (w : World) : ∃ v, (Op.shift op k a yk b).run P w = .ok v w ∧ Rep P E r v := by
  unfold shiftOp at h
  split at h
  · simp at h
  · rename_i hb
    unfold Op.shift
    rw [if_neg hb]
    cases op <;> simp only [Option.some.injEq, reduceCtorEq] at h
    all_goals
      subst h
      exact ⟨_, rfl, .int _ _⟩

theorem part_ok {t : TypeId} {cs : List PV} {off : Nat} {x : PV} (h : part P t cs off = some x) {vs : Array Value} (hv : Rep P E (.agg cs) (.agg vs)) (w : World) :
    ∃ v, (Go.part t vs off).run P w = .ok v w ∧ Rep P E x v := by
  cases hv with
  | agg _ _ hl hr => exact part_rep w h hl hr

theorem eqFs_run {rec : TypeId → PV → PV → Option Bool} {d : Nat} (hrec : ∀ t x y r, rec t x y = some r → ∀ vx vy, Rep P E x vx → Rep P E y vy → ∀ w, (Op.equalIn d t vx vy).run P w = .ok r w)
    {xs ys : List PV} {vx vy : Array Value} (hx : Rep P E (.agg xs) (.agg vx)) (hy : Rep P E (.agg ys) (.agg vy)) :
    ∀ (fs : List Field) (r : Bool), eqFs P rec xs ys fs = some r → ∀ w, (Op.eqFields d vx vy fs).run P w = .ok r w
  | [], r, h, w => by simp [eqFs] at h; subst h; simp [Op.eqFields]
  | f :: fs, r, h, w => by
    simp only [eqFs] at h
    simp only [Op.eqFields, Sem.run_ite]
    split at h
    · rename_i hn
      rw [if_neg (by simpa using hn)]
      exact eqFs_run hrec hx hy fs r h w
    · rename_i hn
      rw [if_pos hn]
      cases ha : part P f.type xs f.offset with
      | none => simp [ha] at h
      | some a =>
        cases hb : part P f.type ys f.offset with
        | none => simp [ha, hb] at h
        | some b =>
          cases hr : rec f.type a b with
          | none => simp [ha, hb, hr] at h
          | some q =>
            cases hs : eqFs P rec xs ys fs with
            | none => simp [ha, hb, hr, hs] at h
            | some s =>
              simp only [ha, hb, hr, hs, Option.bind_some, Option.some.injEq] at h
              obtain ⟨va, e1, r1⟩ := part_ok ha hx w
              obtain ⟨vb, e2, r2⟩ := part_ok hb hy w
              have e3 := hrec _ _ _ _ hr _ _ r1 r2 w
              simp only [Sem.run_bind, e1, e2, e3, Result.andThen_ok, Sem.run_ite]
              cases q
              · simp at h; subst h; simp
              · simp at h; subst h
                simp only [Bool.not_true, Bool.false_eq_true, if_false]
                exact eqFs_run hrec hx hy fs s hs w

theorem eqAt_run : ∀ (n d : Nat) (t : TypeId) (x y : PV) (r : Bool), eqAt P n t x y = some r → n ≤ d → ∀ vx vy, Rep P E x vx → Rep P E y vy → ∀ w, (Op.equalIn d t vx vy).run P w = .ok r w
  | 0, _, _, _, _, _, h, _, _, _, _, _, _ => by simp [eqAt] at h
  | n + 1, 0, _, _, _, _, _, hd, _, _, _, _, _ => by omega
  | n + 1, d + 1, t, x, y, r, h, hd, vx, vy, hx, hy, w => by
    simp only [eqAt] at h
    cases hu : P.underlying t with
    | none => rw [hu] at h; simp at h
    | some u =>
      rw [hu] at h
      cases u <;> (try simp only [reduceCtorEq] at h)
      case bool =>
        cases x <;> cases y <;> simp only [reduceCtorEq, Option.some.injEq] at h
        obtain rfl := hx.bool_inv
        obtain rfl := hy.bool_inv
        subst h
        exact run_equalIn_bool' w d t _ _ hu
      case int =>
        cases x <;> cases y <;> simp only [reduceCtorEq] at h
        obtain rfl := hx.int_inv
        obtain rfl := hy.int_inv
        split at h
        · rename_i e
          subst e
          obtain rfl := Option.some.inj h
          exact run_equalIn_int w d t _ _ _ _ hu
        · simp at h
      case string =>
        cases x <;> cases y <;> simp only [reduceCtorEq, Option.some.injEq] at h
        obtain rfl := hx.str_inv
        obtain rfl := hy.str_inv
        subst h
        exact run_equalIn_string w d t _ _ hu
      case struct fs =>
        cases x <;> cases y <;> simp only [reduceCtorEq] at h
        split at h
        · simp at h
        · rename_i hst
          cases hx with
          | agg _ vx hlx hrx =>
            cases hy with
            | agg _ vy hly hry =>
              have hf : P.fieldsOf t = fs := by simp [Program.fieldsOf, hu]
              rw [run_equalIn_struct w d t vx vy (by rw [hf]; exact hu) (by simpa using hst), hf]
              exact eqFs_run (fun t x y r h vx vy hx hy w => eqAt_run n d t x y r h (by omega) vx vy hx hy w) (.agg _ _ hlx hrx) (.agg _ _ hly hry) _ _ h w

theorem intOp_run {op : BinOp} {k : IntKind} {a b : Int} {r : PV} (h : intOp op k a b = some r) (hs : op ≠ .shl ∧ op ≠ .shr) (t : TypeId) (w : World) :
    ∃ v, (Go.binOp op t (.int k a) (.int k b)).run P w = .ok v w ∧ Rep P E r v := by
  unfold intOp at h
  cases op <;> (try simp only [Option.some.injEq] at h) <;> (try (exact absurd rfl hs.1)) <;> (try (exact absurd rfl hs.2))
  case add => subst h; exact ⟨_, by simp [Go.binOp, Op.intArith], .int _ _⟩
  case sub => subst h; exact ⟨_, by simp [Go.binOp, Op.intArith], .int _ _⟩
  case mul => subst h; exact ⟨_, by simp [Go.binOp, Op.intArith], .int _ _⟩
  case quo =>
    split at h
    · simp at h
    · rename_i hb
      obtain rfl := Option.some.inj h
      exact ⟨_, by simp [Go.binOp, Op.intDiv, hb], .int _ _⟩
  case rem =>
    split at h
    · simp at h
    · rename_i hb
      obtain rfl := Option.some.inj h
      exact ⟨_, by simp [Go.binOp, Op.intDiv, hb], .int _ _⟩
  case and => obtain ⟨v, h1, h2⟩ := bitsOp_run (P := P) (E := E) h w; exact ⟨v, by simpa [Go.binOp] using h1, h2⟩
  case or => obtain ⟨v, h1, h2⟩ := bitsOp_run (P := P) (E := E) h w; exact ⟨v, by simpa [Go.binOp] using h1, h2⟩
  case xor => obtain ⟨v, h1, h2⟩ := bitsOp_run (P := P) (E := E) h w; exact ⟨v, by simpa [Go.binOp] using h1, h2⟩
  case andNot => obtain ⟨v, h1, h2⟩ := bitsOp_run (P := P) (E := E) h w; exact ⟨v, by simpa [Go.binOp] using h1, h2⟩
  case eql => subst h; exact ⟨_, by simp [Go.binOp, Op.intCmp], .bool _⟩
  case neq => subst h; exact ⟨_, by simp [Go.binOp, Op.intCmp], .bool _⟩
  case lss => subst h; exact ⟨_, by simp [Go.binOp, Op.intCmp], .bool _⟩
  case leq => subst h; exact ⟨_, by simp [Go.binOp, Op.intCmp], .bool _⟩
  case gtr => subst h; exact ⟨_, by simp [Go.binOp, Op.intCmp], .bool _⟩
  case geq => subst h; exact ⟨_, by simp [Go.binOp, Op.intCmp], .bool _⟩

theorem equalIn_nil {t e : TypeId} (hu : P.underlying t = some (.slice e)) (d : Nat) (w : World) : (Op.equalIn (d + 1) t (.slice none 0 0) (.slice none 0 0)).run P w = .ok true w := by
  simp [Op.equalIn, run_underlying hu]

theorem eqOp_run {t : TypeId} {x y : PV} {r : Bool} (h : eqOp P t x y = some r) {vx vy : Value} (hx : Rep P E x vx) (hy : Rep P E y vy) (w : World) (X Y : Operand) :
    (∀ op, (eqGuard op t X Y vx vy).run P w = .ok () w) ∧ (Go.binOp .eql t vx vy).run P w = .ok (.bool r) w ∧ (Go.binOp .neq t vx vy).run P w = .ok (.bool (!r)) w := by
  unfold eqOp at h
  cases x <;> cases y <;> simp only [reduceCtorEq] at h
  case bool.bool a b =>
    obtain rfl := hx.bool_inv
    obtain rfl := hy.bool_inv
    have h1 := eqAt_run (P := P) (E := E) 1 Op.maxDepth t _ _ r h (by decide) _ _ (.bool a) (.bool b) w
    refine ⟨fun op => by cases op <;> simp [eqGuard], ?_, ?_⟩ <;> simp [Go.binOp, Op.equal, h1]
  case agg.agg xs ys =>
    split at h
    · simp at h
    · rename_i hg
      cases hx with
      | agg _ vx hlx hrx =>
        cases hy with
        | agg _ vy hly hry =>
          have h1 := eqAt_run (P := P) (E := E) 6 10000 t _ _ r h (by decide) _ _ (.agg _ _ hlx hrx) (.agg _ _ hly hry) w
          refine ⟨fun op => run_eqGuard_agg w op t X Y _ _ (by simpa using hg), ?_, ?_⟩
          · rw [run_eql_struct, h1]; rfl
          · rw [run_neq_struct, h1]; rfl
  case nils.nils =>
    obtain rfl := hx.nils_inv
    obtain rfl := hy.nils_inv
    split at h
    · rename_i hu
      obtain rfl := Option.some.inj h
      have h1 : (Op.equal t (.slice none 0 0) (.slice none 0 0)).run P w = .ok true w := equalIn_nil hu 9999 w
      refine ⟨fun op => by cases op <;> simp [eqGuard], ?_, ?_⟩ <;> simp [Go.binOp, h1]
    · simp at h

theorem binOp_run {op : BinOp} {t : TypeId} {x y r : PV} (h : binOp P op t x y = some r) {vx vy : Value} (hx : Rep P E x vx) (hy : Rep P E y vy) (w : World) (X Y : Operand) :
    ∃ v, (do eqGuard op t X Y vx vy; Go.binOp op t vx vy : Sem Value).run P w = .ok v w ∧ Rep P E r v := by
  unfold binOp at h
  split at h
  · rename_i k a k' b
    obtain rfl := hx.int_inv
    obtain rfl := hy.int_inv
    have hg : (eqGuard op t X Y (.int k a) (.int k' b)).run P w = .ok () w := by cases op <;> simp [eqGuard]
    simp only [Sem.run_bind, hg, Result.andThen_ok]
    split at h
    · obtain ⟨v, h1, h2⟩ := shiftOp_run (P := P) (E := E) (yk := k') h w
      exact ⟨v, by simpa [Go.binOp] using h1, h2⟩
    · obtain ⟨v, h1, h2⟩ := shiftOp_run (P := P) (E := E) (yk := k') h w
      exact ⟨v, by simpa [Go.binOp] using h1, h2⟩
    · rename_i hn1 hn2
      split at h
      · rename_i e
        subst e
        exact intOp_run h ⟨fun e => hn1 e, fun e => hn2 e⟩ t w
      · simp at h
  · rename_i a b
    obtain rfl := hx.str_inv
    obtain rfl := hy.str_inv
    have hg : (eqGuard op t X Y (.string a) (.string b)).run P w = .ok () w := by cases op <;> simp [eqGuard]
    simp only [Sem.run_bind, hg, Result.andThen_ok]
    obtain ⟨v, h1, h2⟩ := strOp_run (P := P) (E := E) h w
    refine ⟨v, ?_, h2⟩
    cases op <;> simpa [Go.binOp] using h1
  · split at h
    · cases he : eqOp P t x y with
      | none => simp [he] at h
      | some b =>
        simp only [he, Option.map_some, Option.some.injEq] at h
        subst h
        obtain ⟨h1, h2, _⟩ := eqOp_run he hx hy w X Y
        exact ⟨_, by simp only [Sem.run_bind, h1, Result.andThen_ok, h2], .bool _⟩
    · cases he : eqOp P t x y with
      | none => simp [he] at h
      | some b =>
        simp only [he, Option.map_some, Option.some.injEq] at h
        subst h
        obtain ⟨h1, _, h3⟩ := eqOp_run he hx hy w X Y
        exact ⟨_, by simp only [Sem.run_bind, h1, Result.andThen_ok, h3], .bool _⟩
    · simp at h

theorem unOp_run {op : UnOp} {x r : PV} (h : unOp op x = some r) {vx : Value} (hx : Rep P E x vx) (w : World) : ∃ v, (Op.unary op vx).run P w = .ok v w ∧ Rep P E r v := by
  unfold unOp at h
  split at h
  · obtain rfl := hx.int_inv
    obtain rfl := Option.some.inj h
    exact ⟨_, by simp [Op.unary, Op.intArith], .int _ _⟩
  · obtain rfl := hx.int_inv
    obtain ⟨v, h1, h2⟩ := bitsOp_run (P := P) (E := E) h w
    exact ⟨v, by simpa [Op.unary] using h1, h2⟩
  · obtain rfl := hx.bool_inv
    obtain rfl := Option.some.inj h
    exact ⟨_, by simp [Op.unary], .bool _⟩
  · simp at h

end
end Go.Pu
end

section
/- The pure machine, sixth part: operations that read memory. -/
set_option linter.unusedSimpArgs false
namespace Go.Pu

section
variable {P : Program} {E : Env}

/-- what is told of a slice's value whose content is told -/
def SliceIs (P : Program) (E : Env) (T : Option TypeId) (es : List (List PV)) (v : Value) : Prop :=
  ∃ A cap, v = .slice A es.length cap ∧ es.length ≤ cap ∧ (T = none → es = [] ∧ A = none ∧ cap = 0) ∧
    (es = [] ∨ ∃ t sz blk o c T' fz, T = some t ∧ elSize P t = some sz ∧ A = some ⟨blk, o, none⟩ ∧ E.w.heap[blk]? = some (.cells c T' fz) ∧ o + es.length * sz ≤ c.size ∧
      (∀ i, i < es.length → cellsOK (kds P t) (es.getD i []) = true) ∧
      (∀ i j, i < es.length → j < sz → Rep P E ((es.getD i []).getD j .top) (c.getD (o + i * sz + j) undef)))

theorem getD_drop_take_l (es : List (List PV)) (off n i : Nat) (hi : i < n) : ((es.drop off).take n).getD i [] = es.getD (off + i) [] := by
  simp [List.getD, List.getElem?_take, hi, List.getElem?_drop]

theorem own_is (hI : Inv P E) {b off n : Nat} {t : TypeId} {es : List (List PV)} {l : Bool} {v : Value} (hb : E.h[b]? = some (.arr t es l)) (h : SlcAt P E b off n v) (hle : off + n ≤ es.length) :
    SliceIs P E (some t) ((es.drop off).take n) v := by
  have hlen : ((es.drop off).take n).length = n := by simp; omega
  unfold SlcAt at h
  rw [hb] at h
  obtain ⟨_, sz, A, cap, hs, hv, hn, hh⟩ := h
  refine ⟨A, cap, by rw [hlen]; exact hv, by rw [hlen]; exact hn, (fun e => by cases e), ?_⟩
  rcases hh with h0 | ⟨blk, o, c, T, h1, h2, h3, h4⟩
  · exact .inl (List.eq_nil_of_length_eq_zero (by omega))
  · by_cases hn0 : n = 0
    · exact .inl (List.eq_nil_of_length_eq_zero (by omega))
    · have hB := hI.blk b
      unfold BlkAt at hB
      rw [hb] at hB
      simp only [h1] at hB
      obtain ⟨hk, sz', c', T', hs', hb', hle', hr, _⟩ := hB
      rw [hs] at hs'
      obtain rfl := Option.some.inj hs'
      rw [h3] at hb'
      cases hb'
      refine .inr ⟨t, sz, blk, o + off * sz, c, T, (0, 0), rfl, hs, h2, h3, ?_, fun i hi => ?_, fun i j hi hj => ?_⟩
      · rw [hlen]
        have : (off + n) * sz ≤ es.length * sz := Nat.mul_le_mul_right _ hle
        rw [Nat.add_mul] at this
        omega
      · rw [hlen] at hi
        rw [getD_drop_take_l _ _ _ _ hi]
        exact hk _ (by omega)
      · rw [hlen] at hi
        rw [getD_drop_take_l _ _ _ _ hi]
        have := hr (off + i) j (by omega) hj
        rw [Nat.add_mul, ← Nat.add_assoc] at this
        exact this

theorem content_rep (hI : Inv P E) {x : PV} {T : Option TypeId} {es : List (List PV)} (h : content E.h x = some (T, es)) {v : Value} (hx : Rep P E x v) : SliceIs P E T es v := by
  unfold content at h
  cases x <;> simp only [reduceCtorEq] at h
  case nils =>
    simp only [Option.some.injEq, Prod.mk.injEq] at h
    obtain ⟨rfl, rfl⟩ := h
    obtain rfl := hx.nils_inv
    exact ⟨none, 0, rfl, Nat.le_refl _, fun _ => ⟨rfl, rfl, rfl⟩, .inl rfl⟩
  case lst t es' =>
    simp only [Option.some.injEq, Prod.mk.injEq] at h
    obtain ⟨rfl, rfl⟩ := h
    cases hx with
    | lst0 t A cap => exact ⟨A, cap, rfl, Nat.zero_le _, (fun e => by cases e), .inl rfl⟩
    | lst t es blk o cap sz c T fz hs hb him hcap hlen hk hr =>
      exact ⟨_, cap, rfl, hcap, (fun e => by cases e), .inr ⟨t, sz, blk, o, c, T, fz, rfl, hs, rfl, hb, hlen, hk, hr⟩⟩
  case all b =>
    split at h
    · rename_i t es' l hb
      simp only [Option.some.injEq, Prod.mk.injEq] at h
      obtain ⟨rfl, rfl⟩ := h
      cases hx with
      | all _ n _ hn hh =>
        have := own_is hI hb hh (by rw [hn t es' l hb]; omega)
        rw [hn t es' l hb] at this
        simpa using this
    · simp at h
  case own b off n =>
    split at h
    · rename_i t es' l hb
      split at h
      · rename_i hle
        simp only [Option.some.injEq, Prod.mk.injEq] at h
        obtain ⟨rfl, rfl⟩ := h
        cases hx with
        | own _ _ _ _ hh => exact own_is hI hb hh hle
      · simp at h
    · simp at h

theorem lenOp_run (hI : Inv P E) {t : TypeId} {x r : PV} (h : lenOp P t E.h x = some r) {v : Value} (hx : Rep P E x v) (ty : TypeId) (w : World) :
    ∃ u, (Builtin.len_ #[t] ty #[v]).run P w = .ok u w ∧ Rep P E r u := by
  have slc : ∀ {T : Option TypeId} {es : List (List PV)} {e : TypeId}, SliceIs P E T es v → P.underlying t = some (.slice e) → r = .int .i64 es.length → ∃ u, (Builtin.len_ #[t] ty #[v]).run P w = .ok u w ∧ Rep P E r u := by
    rintro T es e ⟨A, cap, rfl, _⟩ hd rfl
    exact ⟨.int .i64 es.length, by simp [Builtin.len_, run_underlying hd, goInt], .int _ _⟩
  unfold lenOp at h
  split at h
  · rename_i s hd
    obtain rfl := hx.str_inv
    obtain rfl := Option.some.inj h
    exact ⟨.int .i64 _, by simp [Builtin.len_, run_underlying hd, goInt], .int _ _⟩
  · rename_i hd
    rename_i e b off n
    split at h
    · rename_i t' es l hb
      split at h
      · rename_i hle
        obtain rfl := Option.some.inj h
        cases hx with
        | own _ _ _ _ hh =>
          have := own_is hI hb hh hle
          refine slc this hd ?_
          simp; omega
      · simp at h
    · simp at h
  · rename_i y _ _ e hd _
    cases hc : content E.h y with
    | none => simp [hc] at h
    | some c =>
      simp only [hc, Option.map_some, Option.some.injEq] at h
      exact slc (content_rep hI (T := c.1) (es := c.2) hc hx) hd h.symm
  · simp at h

theorem loadOp_run (hI : Inv P E) {t : TypeId} {a x : PV} (h : loadOp P t E.h a = some x) {v : Value} (ha : Rep P E a v) :
    ∃ u, (Instr.loadAt t v).run P E.w = .ok u E.w ∧ Rep P E x u := by
  unfold loadOp at h
  cases a <;> simp only [reduceCtorEq] at h
  case ptr b off =>
    split at h
    · rename_i T cs hb
      cases ha with
      | ptr _ _ _ hh =>
        unfold PtrAt at hh
        rw [hb] at hh
        obtain ⟨blk, o, h1, rfl⟩ := hh
        have hB := hI.blk b
        unfold BlkAt at hB
        rw [hb] at hB
        obtain ⟨blk', o', c, T', h1', h2, h3, h4, _⟩ := hB
        rw [h1] at h1'
        obtain ⟨rfl, rfl⟩ := Prod.mk.inj (Option.some.inj h1')
        obtain ⟨u, e1, e2⟩ := loadBox_rep E.w h h2 h3 h4
        exact ⟨u, by simpa [Instr.loadAt, Instr.sureAddr] using e1, e2⟩
    · simp at h
  case aptr b i off =>
    split at h
    · rename_i T es l hb
      split at h
      · rename_i hi
        cases ha with
        | aptr _ _ _ _ hh =>
          unfold AptrAt at hh
          rw [hb] at hh
          obtain ⟨_, sz, blk, o, hs, h1, rfl⟩ := hh
          have hB := hI.blk b
          unfold BlkAt at hB
          rw [hb] at hB
          simp only [h1] at hB
          obtain ⟨hk, sz', c, T', hs', hb', hle, hr, _⟩ := hB
          rw [hs] at hs'
          obtain rfl := Option.some.inj hs'
          obtain ⟨_, _, _, hsz, _⟩ := elSize_spec hs
          have hl := (cellsOK_getD (hk i hi)).1
          have hm : (i + 1) * sz ≤ es.length * sz := Nat.mul_le_mul_right _ hi
          rw [Nat.add_mul, Nat.one_mul] at hm
          obtain ⟨u, e1, e2⟩ := loadEl_rep (E := E) E.w h (o := o + i * sz) hb' (by rw [hl, ← hsz]; omega) (hk i hi) (fun j hj => hr i j hi (by omega))
          exact ⟨u, by simpa [Instr.loadAt, Instr.sureAddr] using e1, e2⟩
      · simp at h
    · simp at h
  case eptr T cs off =>
    cases ha with
    | eptr _ _ _ blk o c T' fz hb him hlen hk hr =>
      obtain ⟨u, e1, e2⟩ := loadEl_rep (E := E) E.w h hb hlen hk hr
      exact ⟨u, by simpa [Instr.loadAt, Instr.sureAddr] using e1, e2⟩

theorem alive_ptr {a : PV} (h : aliveP E.h a = true) {v : Value} (ha : Rep P E a v) : ∃ blk k, v = .pointer (some ⟨blk, k, none⟩) := by
  unfold aliveP at h
  cases a <;> simp only [reduceCtorEq, Bool.false_eq_true] at h
  case ptr b off =>
    cases ha with
    | ptr _ _ _ hh =>
      unfold PtrAt at hh
      split at h
      · rename_i hb
        rw [hb] at hh
        obtain ⟨blk, o, _, rfl⟩ := hh
        exact ⟨_, _, rfl⟩
      · simp at h
  case aptr b i off =>
    cases ha with
    | aptr _ _ _ _ hh =>
      unfold AptrAt at hh
      split at h
      · rename_i hb
        rw [hb] at hh
        obtain ⟨_, sz, blk, o, _, _, rfl⟩ := hh
        exact ⟨_, _, rfl⟩
      · simp at h
  case eptr => cases ha; exact ⟨_, _, rfl⟩

theorem moved_rep {a : PV} {blk k : Nat} (ha : Rep P E a (.pointer (some ⟨blk, k, none⟩))) (hal : aliveP E.h a = true) (n : Nat) : Rep P E (moved a n) (.pointer (some ⟨blk, k + n, none⟩)) := by
  unfold aliveP at hal
  cases a <;> simp only [reduceCtorEq, Bool.false_eq_true] at hal
  case ptr b off =>
    cases ha with
    | ptr _ _ _ hh =>
      refine .ptr _ _ _ ?_
      unfold PtrAt at hh ⊢
      split at hal
      · rename_i hb
        rw [hb] at hh ⊢
        obtain ⟨blk', o, h1, h2⟩ := hh
        cases h2
        exact ⟨_, o, h1, by rw [Nat.add_assoc]⟩
      · simp at hal
  case aptr b i off =>
    cases ha with
    | aptr _ _ _ _ hh =>
      refine .aptr _ _ _ _ ?_
      unfold AptrAt at hh ⊢
      split at hal
      · rename_i hb
        rw [hb] at hh ⊢
        obtain ⟨h0, sz, blk', o, hs, h1, h2⟩ := hh
        cases h2
        exact ⟨h0, sz, _, o, hs, h1, by rw [Nat.add_assoc]⟩
      · simp at hal
  case eptr T cs off =>
    cases ha with
    | eptr _ _ _ blk' o c T' fz hb him hlen hk hr =>
      rw [Nat.add_assoc]
      exact .eptr T cs (off + n) _ o c T' fz hb him hlen hk hr

theorem fieldAddrOp_run {t : TypeId} {a x : PV} {f : Nat} (h : fieldAddrOp P t E.h a f = some x) {v : Value} (ha : Rep P E a v) (w : World) :
    ∃ u, (Instr.fieldAt t v f).run P w = .ok u w ∧ Rep P E x u := by
  unfold fieldAddrOp at h
  cases hu : P.underlying t with
  | none => rw [hu] at h; simp at h
  | some d =>
    rw [hu] at h
    cases d <;> simp only [reduceCtorEq] at h
    case struct fs =>
    cases hf : fs[f]? with
    | none => simp [hf] at h
    | some fd =>
      cases hi : P.info? fd.type with
      | none => simp [hf, hi] at h
      | some i =>
        simp only [hf, hi, Option.bind_some] at h
        split at h
        · simp at h
        · rename_i hc
          simp only [not_or, Bool.not_eq_false] at hc
          obtain rfl := Option.some.inj h
          obtain ⟨blk, k, rfl⟩ := alive_ptr hc.2 ha
          refine ⟨_, ?_, moved_rep ha hc.2 fd.offset⟩
          simp [Instr.fieldAt, run_underlying hu, hf, Instr.sureAddr, fieldPlace, run_sizeOf w hi, hc.1, Addr.add_lit]

theorem fieldOp_run {t : TypeId} {x r : PV} {f : Nat} (h : fieldOp P t x f = some r) {v : Value} (hx : Rep P E x v) (w : World) :
    ∃ u, (Instr.field t v f).run P w = .ok u w ∧ Rep P E r u := by
  unfold fieldOp at h
  cases hu : P.underlying t with
  | none => rw [hu] at h; simp at h
  | some d =>
    rw [hu] at h
    cases d <;> (try simp only [reduceCtorEq] at h)
    case struct fs =>
      cases x <;> simp only [reduceCtorEq] at h
      case agg cs =>
        cases hf : fs[f]? with
        | none => simp [hf] at h
        | some fd =>
          simp only [hf, Option.bind_some] at h
          cases hx with
          | agg _ vs hl hr =>
            obtain ⟨u, e1, e2⟩ := part_rep (E := E) w h hl hr
            exact ⟨u, by simp [Instr.field, run_underlying hu, hf, asAgg, e1], e2⟩

theorem index_str (s : ByteArray) (n : Int) (h0 : 0 ≤ n) (h1 : n < s.size) : s[n.toNat]? = some (s.data.toList.getD n.toNat 0) := by
  have hlt : n.toNat < s.size := by omega
  have hlt' : n.toNat < s.data.size := hlt
  rw [getElem?_pos s n.toNat hlt]
  congr 1
  have e : s[n.toNat] = s.data[n.toNat] := rfl
  rw [e, List.getD, Array.getElem?_toList, Array.getElem?_eq_getElem hlt']
  rfl

theorem indexOp_run {t : TypeId} {x i r : PV} (h : indexOp P t x i = some r) {v vi : Value} (hx : Rep P E x v) (hi : Rep P E i vi) (w : World) :
    ∃ u, (Instr.index t v vi).run P w = .ok u w ∧ Rep P E r u := by
  unfold indexOp at h
  split at h
  · rename_i hu
    obtain rfl := hx.str_inv
    obtain rfl := hi.int_inv
    rename_i s k n
    split at h
    · rename_i hb
      obtain rfl := Option.some.inj h
      have e := index_str s n hb.1 hb.2
      exact ⟨_, by simp [Instr.index, asIntOf, run_underlying hu, hb.1, e], .int _ _⟩
    · simp at h
  · rename_i hu
    obtain rfl := hi.int_inv
    rename_i len e cs k n
    cases hg : P.info? e with
    | none => simp [hg] at h
    | some g =>
      simp only [hg, Option.bind_some] at h
      split at h
      · rename_i hb
        cases hx with
        | agg _ vs hl hr =>
          obtain ⟨u, e1, e2⟩ := part_rep (E := E) w h hl hr
          exact ⟨u, by simp [Instr.index, asIntOf, run_underlying hu, hb.1, hb.2, run_sizeOf w hg, e1], e2⟩
      · simp at h
  · simp at h

theorem run_indexAt_slice {t e : TypeId} (hu : P.underlying t = some (.slice e)) {g : TypeInfo} (hg : P.info? e = some g) {blk o len cap : Nat} {k : IntKind} {n : Int} (h0 : 0 ≤ n) (h1 : n < len) (w : World) :
    (Instr.indexAt t (.slice (some ⟨blk, o, none⟩) len cap) (.int k n)).run P w = .ok (.pointer (some ⟨blk, o + n.toNat * g.size, none⟩)) w := by
  simp [Instr.indexAt, asIntOf, run_underlying hu, h0, h1, run_sizeOf w hg, Addr.add_lit]

theorem indexAddrOp_run (hI : Inv P E) {t : TypeId} {x i r : PV} (h : indexAddrOp P t E.h x i = some r) {v vi : Value} (hx : Rep P E x v) (hi : Rep P E i vi) (w : World) :
    ∃ u, (Instr.indexAt t v vi).run P w = .ok u w ∧ Rep P E r u := by
  unfold indexAddrOp at h
  split at h
  · rename_i hu
    rename_i e k n
    obtain rfl := hi.int_inv
    split at h
    · simp at h
    · rename_i hel
      obtain ⟨sz, hsz⟩ := Option.ne_none_iff_exists'.1 hel
      obtain ⟨g, hg, hgs, hk, h0⟩ := elSize_spec hsz
      cases x <;> simp only [reduceCtorEq] at h
      case lst T es =>
        split at h
        · rename_i hc
          obtain ⟨rfl, hn0, hn1⟩ := hc
          obtain rfl := Option.some.inj h
          have hS := content_rep hI (x := .lst T es) rfl hx
          obtain ⟨A, cap, rfl, hcap, _, hh⟩ := hS
          have hlt : n.toNat < es.length := by omega
          rcases hh with rfl | ⟨t', sz', blk, o, c, T', fz, he, hs', rfl, hb, hlen, hks, hr⟩
          · simp at hlt
          · obtain rfl := Option.some.inj he
            rw [hsz] at hs'
            obtain rfl := Option.some.inj hs'
            refine ⟨_, run_indexAt_slice hu hg hn0 hn1 w, ?_⟩
            have him : E.im blk := by
              cases hx with
              | lst0 => simp at hlt
              | lst _ _ _ _ _ _ _ _ _ _ _ him => exact him
            have hl := (cellsOK_getD (hks _ hlt)).1
            have hm : (n.toNat + 1) * sz ≤ es.length * sz := Nat.mul_le_mul_right _ hlt
            rw [Nat.add_mul, Nat.one_mul] at hm
            rw [hgs]
            exact .eptr T _ 0 blk (o + n.toNat * sz) c T' fz hb him (by rw [hl, ← hk]; omega) (hks _ hlt) (fun j hj => hr _ j hlt (by omega))
        · simp at h
      case all b =>
        split at h
        · rename_i T es l hb
          split at h
          · rename_i hc
            obtain ⟨rfl, hn0, hn1⟩ := hc
            obtain rfl := Option.some.inj h
            have hlt : n.toNat < es.length := by omega
            cases hx with
            | all _ m _ hm hh =>
              obtain rfl := hm T es l hb
              unfold SlcAt at hh
              rw [hb] at hh
              obtain ⟨_, sz', A, cap, hs', rfl, hcap, hq⟩ := hh
              rw [hsz] at hs'
              obtain rfl := Option.some.inj hs'
              rcases hq with hq | ⟨blk, o, c, T', h1, rfl, h3, h4⟩
              · omega
              · refine ⟨_, run_indexAt_slice hu hg hn0 hn1 w, .aptr _ _ _ _ ?_⟩
                unfold AptrAt
                rw [hb]
                exact ⟨hlt, sz, blk, o, hsz, h1, by rw [hgs]; simp⟩
          · simp at h
        · simp at h
      case own b off m =>
        split at h
        · rename_i T es l hb
          split at h
          · rename_i hc
            obtain ⟨rfl, hn0, hn1, hn2⟩ := hc
            obtain rfl := Option.some.inj h
            cases hx with
            | own _ _ _ _ hh =>
              unfold SlcAt at hh
              rw [hb] at hh
              obtain ⟨_, sz', A, cap, hs', rfl, hcap, hq⟩ := hh
              rw [hsz] at hs'
              obtain rfl := Option.some.inj hs'
              rcases hq with hq | ⟨blk, o, c, T', h1, rfl, h3, h4⟩
              · omega
              · refine ⟨_, run_indexAt_slice hu hg hn0 hn1 w, .aptr _ _ _ _ ?_⟩
                unfold AptrAt
                rw [hb]
                exact ⟨hn2, sz, blk, o, hsz, h1, by rw [hgs, Nat.add_mul]; simp [Nat.add_assoc]⟩
          · simp at h
        · simp at h
  · rename_i hu
    rename_i len e k n
    obtain rfl := hi.int_inv
    cases x <;> simp only [reduceCtorEq] at h
    case ptr b off =>
      cases hg : P.info? e with
      | none => simp [hg] at h
      | some g =>
        simp only [hg, Option.bind_some] at h
        split at h
        · rename_i hc
          obtain rfl := Option.some.inj h
          obtain ⟨blk, k', rfl⟩ := alive_ptr hc.2.2 hx
          refine ⟨_, ?_, moved_rep hx hc.2.2 (n.toNat * g.size)⟩
          simp [Instr.indexAt, asIntOf, run_underlying hu, Instr.sureAddr, hc.1, hc.2.1, run_sizeOf w hg, Addr.add_lit]
        · simp at h
  · simp at h

end
end Go.Pu
end

section
/- The pure machine, seventh part: cuts, conversions, structs that are built; blocks that are made. -/
set_option linter.unusedSimpArgs false
namespace Go.Pu

section
variable {P : Program} {E : Env}

theorem setCells_spec : ∀ (xs cs : List PV) (off : Nat), off + xs.length ≤ cs.length →
    (setCells cs off xs).length = cs.length ∧ ∀ k, (setCells cs off xs).getD k .top = if off ≤ k ∧ k < off + xs.length then xs.getD (k - off) .top else cs.getD k .top
  | [], cs, off, _ => ⟨rfl, fun k => by rw [if_neg (by simp only [List.length_nil]; omega)]; rfl⟩
  | x :: xs, cs, off, h => by
    obtain ⟨h1, h2⟩ := setCells_spec xs (cs.set off x) (off + 1) (by simp at h ⊢; omega)
    refine ⟨by simp [setCells, h1], fun k => ?_⟩
    simp only [setCells, h2, List.length_cons]
    by_cases e : off = k
    · subst e
      rw [if_neg (by omega), if_pos (by omega), getD_set_same _ _ _ _ (by simp at h; omega)]
      simp
    · rw [getD_set_other _ _ _ _ _ e]
      by_cases hk : off ≤ k ∧ k < off + (xs.length + 1)
      · rw [if_pos (by omega), if_pos hk]
        obtain ⟨m, rfl⟩ : ∃ m, k = off + 1 + m := ⟨k - (off + 1), by omega⟩
        rw [show off + 1 + m - off = m + 1 by omega, show off + 1 + m - (off + 1) = m by omega]
        simp
      · rw [if_neg (by omega), if_neg hk]

theorem zipFold_spec : ∀ (vs : List Value) (n off : Nat) (cells : Array Value), off + n + vs.length ≤ cells.size →
    ((vs.zipIdx n).foldl (fun cs (p : Value × Nat) => cs.setIfInBounds (off + p.2) p.1) cells).size = cells.size ∧
    ∀ k, ((vs.zipIdx n).foldl (fun cs (p : Value × Nat) => cs.setIfInBounds (off + p.2) p.1) cells).getD k undef = if off + n ≤ k ∧ k < off + n + vs.length then vs.getD (k - (off + n)) undef else cells.getD k undef
  | [], n, off, cells, _ => ⟨rfl, fun k => by rw [if_neg (by simp only [List.length_nil]; omega)]; rfl⟩
  | v :: vs, n, off, cells, h => by
    obtain ⟨h1, h2⟩ := zipFold_spec vs (n + 1) off (cells.setIfInBounds (off + n) v) (by simp at h ⊢; omega)
    simp only [List.zipIdx_cons, List.foldl_cons]
    refine ⟨by rw [h1]; simp, fun k => ?_⟩
    rw [h2, List.length_cons]
    have hs : off + n < cells.size := by simp at h; omega
    by_cases e : off + n = k
    · subst e
      rw [if_neg (by omega), if_pos (by omega)]
      simp [Array.getD, hs]
    · have h3 : (cells.setIfInBounds (off + n) v).getD k undef = cells.getD k undef := by
        by_cases hk : k < cells.size
        · simp [Array.getD, hk, Array.getElem_setIfInBounds, e]
        · simp [Array.getD, hk]
      rw [h3]
      by_cases hk : off + n ≤ k ∧ k < off + n + (vs.length + 1)
      · rw [if_pos (by omega), if_pos hk]
        obtain ⟨m, rfl⟩ : ∃ m, k = off + (n + 1) + m := ⟨k - (off + (n + 1)), by omega⟩
        rw [show off + (n + 1) + m - (off + n) = m + 1 by omega, show off + (n + 1) + m - (off + (n + 1)) = m by omega]
        simp
      · rw [if_neg (by omega), if_neg hk]

/-- cells that stand for others, one by one -/
def RepCs (P : Program) (E : Env) (cs : List PV) (vs : Array Value) : Prop := cs.length = vs.size ∧ ∀ j, j < cs.length → Rep P E (cs.getD j .top) (vs.getD j undef)

theorem rep_cells {x : PV} {v : Value} (h : Rep P E x v) (hx : (∃ cs, x = .agg cs) ∨ v.cells = #[v]) : RepCs P E x.cells v.cells := by
  rcases hx with ⟨cs, rfl⟩ | hv
  · cases h with
    | agg _ vs hl hr => exact ⟨hl, hr⟩
  · by_cases hx : ∃ cs, x = .agg cs
    · obtain ⟨cs, rfl⟩ := hx
      cases h with
      | agg _ vs hl hr => exact ⟨hl, hr⟩
    · have : x.cells = [x] := by cases x <;> first | rfl | exact absurd ⟨_, rfl⟩ hx
      rw [this, hv]
      refine ⟨rfl, fun j hj => ?_⟩
      obtain rfl : j = 0 := by simpa using hj
      simpa using h

theorem cells_of_not_agg {v : Value} (h : ∀ cs, v ≠ .agg cs) : v.cells = #[v] := by
  cases v <;> first | rfl | exact absurd rfl (h _)

theorem okv_cells {x : PV} {v : Value} (h : Rep P E x v) (hx : okv E.h x = true) : RepCs P E x.cells v.cells := by
  cases h with
  | agg cs vs hl hr => exact ⟨hl, hr⟩
  | top => simp [okv] at hx
  | tuple => simp [okv] at hx
  | all b n v hn hh =>
    have h0 := Rep.all (P := P) (E := E) b n v hn hh
    refine rep_cells h0 (.inr ?_)
    simp only [okv] at hx
    unfold SlcAt at hh
    split at hx
    · rename_i hb
      rw [hb] at hh
      obtain ⟨_, sz, A, cap, _, rfl, _⟩ := hh
      rfl
    · simp at hx
  | own b off n v hh =>
    have h0 := Rep.own (P := P) (E := E) b off n v hh
    refine rep_cells h0 (.inr ?_)
    simp only [okv] at hx
    unfold SlcAt at hh
    split at hx
    · rename_i hb
      rw [hb] at hh
      obtain ⟨_, sz, A, cap, _, rfl, _⟩ := hh
      rfl
    · simp at hx
  | ptr b off v hh =>
    have h0 := Rep.ptr (P := P) (E := E) b off v hh
    obtain ⟨_, _, rfl⟩ := alive_ptr (by simpa only [okv] using hx) h0
    exact rep_cells h0 (.inr rfl)
  | aptr b i off v hh =>
    have h0 := Rep.aptr (P := P) (E := E) b i off v hh
    obtain ⟨_, _, rfl⟩ := alive_ptr (by simpa only [okv] using hx) h0
    exact rep_cells h0 (.inr rfl)
  | bool b => exact rep_cells (.bool b) (.inr rfl)
  | int k n => exact rep_cells (.int k n) (.inr rfl)
  | str s => exact rep_cells (.str s) (.inr rfl)
  | nils => exact rep_cells .nils (.inr rfl)
  | lst0 t A cap => exact rep_cells (.lst0 t A cap) (.inr rfl)
  | lst t es blk o cap sz c T fz hs hb him hcap hlen hk hr => exact rep_cells (.lst t es blk o cap sz c T fz hs hb him hcap hlen hk hr) (.inr rfl)
  | nilp => exact rep_cells .nilp (.inr rfl)
  | eptr t cs off blk o c T fz hb him hlen hk hr => exact rep_cells (.eptr t cs off blk o c T fz hb him hlen hk hr) (.inr rfl)
  | fn f cs vs hl hh => exact rep_cells (.fn f cs vs hl hh) (.inr rfl)
  | nilfn => exact rep_cells .nilfn (.inr rfl)
  | iface t x v hh => exact rep_cells (.iface t x v hh) (.inr rfl)
  | nili => exact rep_cells .nili (.inr rfl)

theorem fill_rep {place : Nat → Option (Nat × Nat)} {place' : Nat → Option (Nat × Nat)} (hp : ∀ i r, place i = some r → place' i = some r) :
    ∀ (parts : List (Nat × PV)) (vparts : List (Nat × Value)) (cs : List PV) (vs : Array Value) (r : List PV), RepCs P E cs vs → parts.length = vparts.length →
      (∀ (j : Nat) (p : Nat × PV), parts[j]? = some p → ∃ q : Nat × Value, vparts[j]? = some q ∧ q.1 = p.1 ∧ RepCs P E p.2.cells q.2.cells) →
      fillPV place cs parts = some r → ∃ vs', Instr.fill place' vs vparts = some vs' ∧ RepCs P E r vs'
  | [], [], cs, vs, r, hc, _, _, h => by simp [fillPV] at h; subst h; exact ⟨vs, rfl, hc⟩
  | [], _ :: _, _, _, _, _, hl, _, _ => by simp at hl
  | _ :: _, [], _, _, _, _, hl, _, _ => by simp at hl
  | (i, x) :: ps, (i', v) :: qs, cs, vs, r, hc, hl, hq, h => by
    obtain ⟨q, e1, e2, e3⟩ := hq 0 (i, x) rfl
    simp at e1
    subst e1
    simp only at e2 e3
    subst e2
    simp only [fillPV] at h
    cases hpl : place i' with
    | none => simp [hpl] at h
    | some os =>
      obtain ⟨off, size⟩ := os
      simp only [hpl] at h
      split at h
      · rename_i hcnd
        obtain ⟨hs, hle⟩ := hcnd
        simp only [Instr.fill, hp _ _ hpl]
        have hvs : v.cells.size = size := by rw [← e3.1]; exact hs
        have hvs2 : off + v.cells.size ≤ vs.size := by rw [hvs, ← hc.1]; exact hle
        rw [if_neg (by simp; omega)]
        obtain ⟨s1, s2⟩ := setCells_spec x.cells cs off (by omega)
        have z := zipFold_spec v.cells.toList 0 off vs (by simpa using hvs2)
        have ez : (v.cells.zipIdx.foldl (fun cs (p : Value × Nat) => cs.setIfInBounds (off + p.2) p.1) vs) = ((v.cells.toList.zipIdx 0).foldl (fun cs (p : Value × Nat) => cs.setIfInBounds (off + p.2) p.1) vs) := by
          rw [← Array.foldl_toList, Array.toList_zipIdx]
        refine fill_rep hp ps qs _ _ r ⟨?_, fun j hj => ?_⟩ (by simpa using hl) (fun j p hj => hq (j + 1) p (by simpa using hj)) h
        · show _ = (v.cells.zipIdx.foldl (fun cs (p : Value × Nat) => cs.setIfInBounds (off + p.2) p.1) vs).size
          rw [ez, z.1, s1, hc.1]
        · show Rep P E _ ((v.cells.zipIdx.foldl (fun cs (p : Value × Nat) => cs.setIfInBounds (off + p.2) p.1) vs).getD j undef)
          rw [ez, z.2, s2]
          simp only [Nat.add_zero, Array.length_toList]
          rw [s1] at hj
          by_cases hk : off ≤ j ∧ j < off + x.cells.length
          · rw [if_pos hk, if_pos (by rw [← e3.1]; exact hk)]
            have := e3.2 (j - off) (by omega)
            have e : v.cells.toList.getD (j - off) undef = v.cells.getD (j - off) undef := by
              rw [List.getD, Array.getElem?_toList]
              by_cases hb : j - off < v.cells.size
              · rw [Array.getElem?_eq_getElem hb, Array.getD, dif_pos hb]; rfl
              · rw [Array.getElem?_eq_none (by omega), Array.getD, dif_neg hb]; rfl
            rw [e]
            exact this
          · rw [if_neg hk, if_neg (by rw [← e3.1]; exact hk)]
            exact hc.2 j hj
      · simp at h

theorem run_mapM {α β : Type} (f : α → Sem β) (g : α → β) (w : World) : ∀ (l : List α), (∀ x ∈ l, (f x).run P w = .ok (g x) w) → (l.mapM f).run P w = .ok (l.map g) w
  | [], _ => by simp
  | x :: l, h => by
    have ih := run_mapM f g w l (fun y hy => h y (by simp [hy]))
    simp [List.mapM_cons, h x (by simp), ih]

theorem ofConst_cells (v : Value) : RepCs P E (ofConst v).cells v.cells := by
  cases v with
  | agg cs => exact (by have := rep_const (P := P) (E := E) (.agg cs); cases this with | agg _ _ hl hr => exact ⟨hl, hr⟩)
  | _ =>
    refine rep_cells (rep_const _) (.inr rfl)

theorem underlying_all {fs : Array Field} (h : fs.toList.all (fun f => (P.info? f.type).isSome) = true) (w : World) :
    (fs.mapM fun f => (do pure (f.offset, ← sizeOf f.type) : Sem (Nat × Nat))).run P w = .ok (fs.map fun f => (f.offset, ((P.info? f.type).map (·.size)).getD 0)) w := by
  have h1 : (fs.mapM fun f => (do pure (f.offset, ← sizeOf f.type) : Sem (Nat × Nat))) = List.toArray <$> (fs.toList.mapM fun f => (do pure (f.offset, ← sizeOf f.type) : Sem (Nat × Nat))) := by
    rw [Array.mapM_eq_mapM_toList]
  rw [h1, Sem.run_map, run_mapM (P := P) _ (fun f => (f.offset, ((P.info? f.type).map (·.size)).getD 0)) w fs.toList]
  · simp
    rw [← Array.toList_map]
  · intro f hf
    have := List.all_eq_true.1 h f hf
    obtain ⟨i, hi⟩ := Option.isSome_iff_exists.1 this
    simp [run_sizeOf w hi, hi]

theorem buildOp_run {t : TypeId} {parts : List (Nat × PV)} {r : PV} (h : buildOp P t E.h parts = some r) {vparts : Array (Nat × Value)} (hl : parts.length = vparts.size)
    (hq : ∀ (j : Nat) (p : Nat × PV), parts[j]? = some p → ∃ q : Nat × Value, vparts.toList[j]? = some q ∧ q.1 = p.1 ∧ Rep P E p.2 q.2) (w : World) :
    ∃ u, (Instr.build t vparts).run P w = .ok u w ∧ Rep P E r u := by
  unfold buildOp at h
  split at h
  · simp at h
  · rename_i hok
    have hok' := List.all_eq_true.1 (by simpa using hok : parts.all (fun p => okv E.h p.2) = true)
    have hq' : ∀ (j : Nat) (p : Nat × PV), parts[j]? = some p → ∃ q : Nat × Value, vparts.toList[j]? = some q ∧ q.1 = p.1 ∧ RepCs P E p.2.cells q.2.cells := fun j p hj => by
      obtain ⟨q, a, b, c⟩ := hq j p hj
      exact ⟨q, a, b, okv_cells c (hok' p (List.mem_of_getElem? hj))⟩
    cases hu : P.underlying t with
    | none => rw [hu] at h; simp at h
    | some d =>
      obtain ⟨i, hi⟩ := underlying_info hu
      rw [hu, hi] at h
      cases d <;> simp only [reduceCtorEq] at h
      case struct fs =>
        split at h
        · simp at h
        · rename_i hall
          cases hz : i.zero with
          | none => simp [hz] at h
          | some z =>
            simp only [hz, Option.map_some, Option.bind_some] at h
            cases hf : fillPV (fun j => (fs[j]?).map fun f => (f.offset, ((P.info? f.type).map (·.size)).getD 0)) (ofConst z).cells parts with
            | none => simp [hf] at h
            | some cs =>
              simp only [hf, Option.map_some, Option.some.injEq] at h
              subst h
              obtain ⟨vs, e1, e2⟩ := fill_rep (P := P) (E := E) (place' := fun j => (fs.map fun f => (f.offset, ((P.info? f.type).map (·.size)).getD 0))[j]?) (fun j r hj => by simpa using hj) parts vparts.toList _ z.cells cs (ofConst_cells z) (by simpa using hl) hq' hf
              refine ⟨.agg vs, ?_, .agg cs vs e2.1 e2.2⟩
              have hm := underlying_all (P := P) (fs := fs) (by cases hb : fs.toList.all (fun f => (P.info? f.type).isSome) <;> simp_all) w
              simp only [Instr.build, Sem.run_bind, run_zeroValue w hi hz, Result.andThen_ok, run_underlying hu, hm]
              rw [e1]
              rfl
      case array len e =>
        cases hg : P.info? e with
        | none => simp [hg] at h
        | some g =>
          simp only [hg, Option.bind_some] at h
          cases hz : i.zero with
          | none => simp [hz] at h
          | some z =>
            simp only [hz, Option.map_some, Option.bind_some] at h
            cases hf : fillPV (fun j => some (j * g.size, g.size)) (ofConst z).cells parts with
            | none => simp [hf] at h
            | some cs =>
              simp only [hf, Option.map_some, Option.some.injEq] at h
              subst h
              obtain ⟨vs, e1, e2⟩ := fill_rep (P := P) (E := E) (place' := fun j => some (j * g.size, g.size)) (fun j r hj => hj) parts vparts.toList _ z.cells cs (ofConst_cells z) (by simpa using hl) hq' hf
              refine ⟨.agg vs, ?_, .agg cs vs e2.1 e2.2⟩
              simp only [Instr.build, Sem.run_bind, run_zeroValue w hi hz, Result.andThen_ok, run_underlying hu, run_sizeOf w hg]
              rw [e1]
              rfl

end
end Go.Pu
end

section
/- The pure machine, eighth part: cuts and conversions. -/
set_option linter.unusedSimpArgs false
namespace Go.Pu

section
variable {P : Program} {E : Env}

theorem bound_rep {x : Option PV} {d : Nat} {n : Int} (h : bound x d = some n) {v : Option Value} (hx : ∀ p, x = some p → ∃ u, v = some u ∧ Rep P E p u) (hn : x = none → v = none) :
    (v = none ∧ n = d) ∨ ∃ k, v = some (.int k n) := by
  unfold bound at h
  split at h
  · obtain rfl := Option.some.inj h
    exact .inl ⟨hn rfl, rfl⟩
  · obtain rfl := Option.some.inj h
    obtain ⟨u, h1, h2⟩ := hx _ rfl
    obtain rfl := h2.int_inv
    exact .inr ⟨_, h1⟩
  · simp at h

theorem run_sliceBound {k : IntKind} {n : Int} {y : Nat} (h0 : 0 ≤ n) (h1 : n ≤ y) (code : BoundsCode) (w : World) : (Instr.sliceBound (.int k n) y code).run P w = .ok n.toNat w := by
  simp [Instr.sliceBound, asIntOf, h0, h1]

theorem run_sliceBounds {isS : Bool} {len cap : Nat} {lo hi : Option Value} {l u : Int} (hlo : (lo = none ∧ l = ((0 : Nat) : Int)) ∨ ∃ k, lo = some (.int k l)) (hhi : (hi = none ∧ u = (len : Int)) ∨ ∃ k, hi = some (.int k u))
    (h0 : 0 ≤ l) (h1 : l ≤ u) (h2 : u ≤ cap) (w : World) : (Instr.sliceBounds isS len cap lo hi none).run P w = .ok (l.toNat, u.toNat, cap) w := by
  have hu : u ≤ (cap : Int) := h2
  have hlu : l ≤ (u.toNat : Int) := by omega
  rcases hlo with ⟨rfl, rfl⟩ | ⟨k, rfl⟩ <;> rcases hhi with ⟨rfl, rfl⟩ | ⟨k', rfl⟩
  · simp [Instr.sliceBounds]
  · simp [Instr.sliceBounds, run_sliceBound (P := P) (by omega : 0 ≤ u) hu]
  · simp only [Instr.sliceBounds, Sem.run_bind, Sem.run_pure, Result.andThen_ok]
    rw [run_sliceBound (P := P) h0 (by simpa using h1)]
    simp
  · simp only [Instr.sliceBounds, Sem.run_bind, Sem.run_pure, Result.andThen_ok, run_sliceBound (P := P) (by omega : 0 ≤ u) hu]
    rw [run_sliceBound (P := P) h0 hlu]
    simp

theorem run_slice_slice {t e : TypeId} (hu : P.underlying t = some (.slice e)) {g : TypeInfo} (hg : P.info? e = some g) {A : Option Addr} {len cap : Nat} {lo hi : Option Value} {l u : Int}
    (hlo : (lo = none ∧ l = ((0 : Nat) : Int)) ∨ ∃ k, lo = some (.int k l)) (hhi : (hi = none ∧ u = (len : Int)) ∨ ∃ k, hi = some (.int k u)) (h0 : 0 ≤ l) (h1 : l ≤ u) (h2 : u ≤ cap) (w : World) :
    (Instr.sliceAt t (.slice A len cap) lo hi none).run P w = .ok (.slice (if cap = l.toNat then A else A.map (·.add (l.toNat * g.size))) (u.toNat - l.toNat) (cap - l.toNat)) w := by
  have hb := run_sliceBounds (P := P) (isS := true) hlo hhi h0 h1 h2 w
  simp [Instr.sliceAt, Instr.slice, run_underlying hu, hb, run_sizeOf w hg]

theorem slc_cut {b off n : Nat} {t : TypeId} {es : List (List PV)} {l : Bool} (hb : E.h[b]? = some (.arr t es l)) {sz : Nat} (hs : elSize P t = some sz) {A : Option Addr} {cap : Nat} (h : SlcAt P E b off n (.slice A n cap)) (a k : Nat) (hk : a + k ≤ n) :
    SlcAt P E b (off + a) k (.slice (if cap = a then A else A.map (·.add (a * sz))) k (cap - a)) := by
  unfold SlcAt at h ⊢
  rw [hb] at h ⊢
  obtain ⟨h0, sz', A', cap', hs', hv, hn, hh⟩ := h
  rw [hs] at hs'
  obtain rfl := Option.some.inj hs'
  obtain ⟨rfl, _, rfl⟩ : A = A' ∧ n = n ∧ cap = cap' := by simpa using hv
  refine ⟨by omega, sz, _, _, hs, rfl, by omega, ?_⟩
  by_cases hc : cap - a = 0
  · exact .inl hc
  · rcases hh with hh | ⟨blk, o, c, T, h1, rfl, h3, h4⟩
    · omega
    · refine .inr ⟨blk, o, c, T, h1, ?_, h3, ?_⟩
      · rw [if_neg (by omega)]
        simp [Addr.add_lit, Nat.add_mul, Nat.add_assoc]
      · have : off + a + (cap - a) = off + cap := by omega
        rw [this]
        exact h4

theorem sliceRow_run (hI : Inv P E) {t e : TypeId} (hu : P.underlying t = some (.slice e)) {x r : PV} {lo hi : Option PV} (h : sliceRow P e E.h lo hi x = some r) {v : Value} {vlo vhi : Option Value} (hx : Rep P E x v)
    (hlo : ∀ p, lo = some p → ∃ u, vlo = some u ∧ Rep P E p u) (hlo' : lo = none → vlo = none) (hhi : ∀ p, hi = some p → ∃ u, vhi = some u ∧ Rep P E p u) (hhi' : hi = none → vhi = none) (w : World) :
    ∃ u, (Instr.sliceAt t v vlo vhi none).run P w = .ok u w ∧ Rep P E r u := by
  unfold sliceRow at h
  split at h
  · simp at h
  · rename_i hel
    obtain ⟨sz, hsz⟩ := Option.ne_none_iff_exists'.1 hel
    obtain ⟨g, hg, hgs, hk, h0⟩ := elSize_spec hsz
    cases x <;> simp only [reduceCtorEq] at h
    case nils =>
      obtain rfl := hx.nils_inv
      cases hl : bound lo 0 with
      | none => simp [hl] at h
      | some l =>
        cases hh : bound hi 0 with
        | none => simp [hl, hh] at h
        | some u =>
          simp only [hl, hh, Option.bind_some] at h
          split at h
          · rename_i hc
            obtain ⟨rfl, rfl⟩ := hc
            obtain rfl := Option.some.inj h
            refine ⟨_, run_slice_slice hu hg (bound_rep hl hlo hlo') (bound_rep hh hhi hhi') (by omega) (by omega) (by omega) w, ?_⟩
            simpa using Rep.nils
          · simp at h
    case lst T es =>
      cases hl : bound lo 0 with
      | none => simp [hl] at h
      | some l =>
        cases hh : bound hi es.length with
        | none => simp [hl, hh] at h
        | some u =>
          simp only [hl, hh, Option.bind_some] at h
          split at h
          · rename_i hc
            obtain ⟨rfl, c1, c2, c3⟩ := hc
            obtain rfl := Option.some.inj h
            obtain ⟨A, cap, rfl, hcap, _, hq⟩ := content_rep hI (x := .lst T es) rfl hx
            have hlen : ((es.drop l.toNat).take (u.toNat - l.toNat)).length = u.toNat - l.toNat := by simp; omega
            refine ⟨_, run_slice_slice hu hg (bound_rep hl hlo hlo') (bound_rep hh hhi hhi') c1 c2 (by omega) w, ?_⟩
            by_cases hz : u.toNat - l.toNat = 0
            · rw [hz]
              simp only [List.take_zero]
              exact .lst0 _ _ _
            · rcases hq with rfl | ⟨t', sz', blk, o, c, T', fz, he, hs', rfl, hb, hle, hks, hr⟩
              · simp at c3; omega
              · obtain rfl := Option.some.inj he
                rw [hsz] at hs'
                obtain rfl := Option.some.inj hs'
                have him : E.im blk := by
                  cases hx with
                  | lst0 => simp at c3; omega
                  | lst _ _ _ _ _ _ _ _ _ _ _ him => exact him
                rw [if_neg (by omega)]
                simp only [Option.map_some, Addr.add_lit, hgs]
                have hm : u.toNat * sz ≤ es.length * sz := Nat.mul_le_mul_right _ (by omega)
                have hm2 : u.toNat * sz = l.toNat * sz + (u.toNat - l.toNat) * sz := by rw [← Nat.add_mul]; congr 1; omega
                have key := Rep.lst (P := P) (E := E) T ((es.drop l.toNat).take (u.toNat - l.toNat)) blk (o + l.toNat * sz) (cap - l.toNat) sz c T' fz hsz hb him (by rw [hlen]; omega) (by rw [hlen]; omega) (fun i hi => ?_) (fun i j hi hj => ?_)
                · rw [hlen] at key
                  exact key
                · rw [hlen] at hi
                  rw [getD_drop_take_l _ _ _ _ hi]
                  exact hks _ (by omega)
                · rw [hlen] at hi
                  rw [getD_drop_take_l _ _ _ _ hi]
                  have := hr (l.toNat + i) j (by omega) hj
                  rw [Nat.add_mul, ← Nat.add_assoc] at this
                  exact this
          · simp at h
    case all b =>
      split at h
      · rename_i T es lv hb
        cases hl : bound lo 0 with
        | none => simp [hl] at h
        | some l =>
          cases hh : bound hi es.length with
          | none => simp [hl, hh] at h
          | some u =>
            simp only [hl, hh, Option.bind_some] at h
            split at h
            · rename_i hc
              obtain ⟨rfl, c1, c2, c3⟩ := hc
              obtain rfl := Option.some.inj h
              cases hx with
              | all _ n _ hn hS =>
                obtain rfl := hn T es lv hb
                have hS0 := hS
                unfold SlcAt at hS
                rw [hb] at hS
                obtain ⟨_, sz', A, cap, hs', rfl, hcap, _⟩ := hS
                refine ⟨_, run_slice_slice hu hg (bound_rep hl hlo hlo') (bound_rep hh hhi hhi') c1 c2 (by omega) w, .own _ _ _ _ ?_⟩
                have := slc_cut hb hsz hS0 l.toNat (u.toNat - l.toNat) (by omega)
                rw [hgs]
                simpa using this
            · simp at h
      · simp at h
    case own b off n =>
      split at h
      · rename_i T es lv hb
        cases hl : bound lo 0 with
        | none => simp [hl] at h
        | some l =>
          cases hh : bound hi n with
          | none => simp [hl, hh] at h
          | some u =>
            simp only [hl, hh, Option.bind_some] at h
            split at h
            · rename_i hc
              obtain ⟨rfl, c1, c2, c3⟩ := hc
              obtain rfl := Option.some.inj h
              cases hx with
              | own _ _ _ _ hS =>
                have hS0 := hS
                unfold SlcAt at hS
                rw [hb] at hS
                obtain ⟨_, sz', A, cap, hs', rfl, hcap, _⟩ := hS
                refine ⟨_, run_slice_slice hu hg (bound_rep hl hlo hlo') (bound_rep hh hhi hhi') c1 c2 (by omega) w, .own _ _ _ _ ?_⟩
                have := slc_cut hb hsz hS0 l.toNat (u.toNat - l.toNat) (by omega)
                rw [hgs]
                exact this
            · simp at h
      · simp at h

theorem sliceOp_run (hI : Inv P E) {t : TypeId} {x r : PV} {lo hi mx : Option PV} (h : sliceOp P t E.h x lo hi mx = some r) {v : Value} {vlo vhi vmx : Option Value} (hx : Rep P E x v)
    (hlo : ∀ p, lo = some p → ∃ u, vlo = some u ∧ Rep P E p u) (hlo' : lo = none → vlo = none) (hhi : ∀ p, hi = some p → ∃ u, vhi = some u ∧ Rep P E p u) (hhi' : hi = none → vhi = none) (hmx : mx = none → vmx = none) (w : World) :
    ∃ u, (Instr.sliceAt t v vlo vhi vmx).run P w = .ok u w ∧ Rep P E r u := by
  unfold sliceOp at h
  split at h
  · simp at h
  · rename_i hm
    obtain rfl := hmx (by simpa using hm)
    split at h
    · rename_i hu
      split at h
      · rename_i s
        obtain rfl := hx.str_inv
        unfold sliceStr at h
        cases hl : bound lo 0 with
        | none => simp [hl] at h
        | some l =>
          cases hh : bound hi s.size with
          | none => simp [hl, hh] at h
          | some u =>
            simp only [hl, hh, Option.bind_some] at h
            split at h
            · rename_i hc
              obtain rfl := Option.some.inj h
              have hb := run_sliceBounds (P := P) (isS := false) (len := s.size) (cap := s.size) (bound_rep hl hlo hlo') (bound_rep hh hhi hhi') hc.1 hc.2.1 hc.2.2 w
              exact ⟨_, by simp [Instr.sliceAt, Instr.slice, run_underlying hu, hb], .str _⟩
            · simp at h
      · simp at h
    · rename_i e hu
      exact sliceRow_run hI hu h hx hlo hlo' hhi hhi' w
    · simp at h

theorem kdOf_int {t : TypeId} {k : IntKind} (h : kdOf P t = .int k) : P.underlying t = some (.int k) := by
  unfold kdOf at h
  split at h <;> simp_all

theorem kdOf_str {t : TypeId} (h : kdOf P t = .str) : P.underlying t = some .string := by
  unfold kdOf at h
  split at h <;> simp_all

theorem kdOf_bool {t : TypeId} (h : kdOf P t = .bool) : P.underlying t = some .bool := by
  unfold kdOf at h
  split at h <;> simp_all

theorem kdOf_sl {t e : TypeId} (h : kdOf P t = .sl e) : P.underlying t = some (.slice e) := by
  unfold kdOf at h
  split at h <;> simp_all

theorem kds_int {t : TypeId} {k : IntKind} (h : kdOf P t = .int k) : kds P t = [.int k] := by
  have hu := kdOf_int h
  unfold kds
  show (match P.underlying t with
    | some (.struct fs) => fs.toList.flatMap fun (f : Field) => kdsOf P 5 f.type
    | some (.array len e) => (List.replicate len (kdsOf P 5 e)).flatten
    | _ => [kdOf P t]) = _
  rw [hu]
  simp [h]

theorem u8_cell {x : PV} (h : cellOK (.int .u8) x = true) : x = .int .u8 x.toI := by
  cases x <;> simp [cellOK] at h
  rw [← h]
  rfl

theorem strOf_eq (es : List (List PV)) : strOf es = strOfNums (es.map fun e => (e.getD 0 .top).toI) := by
  simp [strOf, strOfNums, List.map_map]

theorem convertOp_run (hI : Inv P E) {s d : TypeId} {x r : PV} (h : convertOp P s d E.h x = some r) {v : Value} (hx : Rep P E x v) :
    ∃ u, (Go.convert s d v).run P E.w = .ok u E.w ∧ Rep P E r u := by
  unfold convertOp at h
  split at h
  · obtain rfl := hx.int_inv
    split at h
    · rename_i k1 h1 h2
      obtain rfl := Option.some.inj h
      exact ⟨_, by simp [Go.convert, run_underlying (kdOf_int h1), run_underlying (kdOf_int h2), Conv.intToInt], .int _ _⟩
    · simp at h
  · obtain rfl := hx.str_inv
    split at h
    · rename_i h1 h2
      obtain rfl := Option.some.inj h
      exact ⟨_, by simp [Go.convert, run_underlying (kdOf_str h1), run_underlying (kdOf_str h2)], .str _⟩
    · simp at h
  · split at h
    · rename_i e h1 h2
      split at h
      · rename_i hk
        obtain ⟨hk, hel⟩ := hk
        cases hc : content E.h x with
        | none => simp [hc] at h
        | some c =>
          obtain ⟨T, es⟩ := c
          simp only [hc, Option.bind_some] at h
          split at h
          · rename_i hT
            obtain rfl := Option.some.inj h
            obtain ⟨A, cap, rfl, hcap, _, hq⟩ := content_rep hI hc hx
            have hs := kdOf_sl h1
            have hd := kdOf_str h2
            have he := kdOf_int hk
            rcases hq with rfl | ⟨t, sz, blk, o, c, T', fz, rfl, hsz, rfl, hb, hle, hks, hr⟩
            · have e0 : strOf [] = ByteArray.empty := rfl
              rw [e0]
              cases A with
              | none => exact ⟨_, run_convert_bytes_nil E.w s e hs he 0 cap d hd, .str _⟩
              | some ad =>
                refine ⟨_, ?_, .str _⟩
                rw [run_convert_bytes_string E.w s d e _ _ cap hs he hd]
                simp [Conv.bytesToString, loadCells, loadCellsFrom]
            · have hte : t = e := by rcases hT with hT | hT <;> simp at hT; exact hT
              subst hte
              rw [hel] at hsz
              obtain rfl := Option.some.inj hsz
              refine ⟨_, ?_, .str _⟩
              rw [strOf_eq]
              refine run_convert_bytes_arg E.w s t hs he blk o es.length cap _ (by simp) (fun i hi => ?_) d hd
              rw [cell_of hb (by omega)]
              have h3 := hks i hi
              rw [kds_int hk] at h3
              have h4 := (cellsOK_getD h3).2 0 (.int .u8) rfl
              have h5 := hr i 0 hi (by omega)
              rw [u8_cell h4] at h5
              have h6 := h5.int_inv
              simp only [Nat.mul_one, Nat.add_zero] at h6
              rw [h6]
              simp [List.getD, hi]
          · simp at h
      · simp at h
    · simp at h

end
end Go.Pu
end

section
/- The pure machine, ninth part: blocks that are made; rows that are written no more. -/
set_option linter.unusedSimpArgs false
namespace Go.Pu

def upd {α : Type} (f : Nat → α) (i : Nat) (x : α) : Nat → α := fun j => if j = i then x else f j

theorem upd_same {α : Type} (f : Nat → α) (i : Nat) (x : α) : upd f i x i = x := by simp [upd]
theorem upd_other {α : Type} (f : Nat → α) (i j : Nat) (x : α) (h : j ≠ i) : upd f i x j = f j := by simp [upd, h]

structure Grow (w w' : World) : Prop where
  size : w.heap.size ≤ w'.heap.size
  os : w'.os = w.os
  tape : w'.tape = w.tape
  output : w'.output = w.output
  old : ∀ k, k < w.heap.size → w'.heap[k]? = w.heap[k]?

theorem Grow.refl (w : World) : Grow w w := ⟨Nat.le_refl _, rfl, rfl, rfl, fun _ _ => rfl⟩

theorem Grow.alloc (w : World) (o : Obj) : Grow w { w with heap := w.heap.push o } :=
  ⟨by simp, rfl, rfl, rfl, fun k hk => by simp [Array.getElem?_push, Nat.ne_of_lt hk]⟩

theorem Grow.trans {a b c : World} (h : Grow a b) (k : Grow b c) : Grow a c :=
  ⟨Nat.le_trans h.size k.size, k.os.trans h.os, k.tape.trans h.tape, k.output.trans h.output, fun i hi => (k.old i (Nat.lt_of_lt_of_le hi h.size)).trans (h.old i hi)⟩

def AlOK (h : Heap) (al : Option Nat) : Prop := match al with | none => True | some s => h[s]? = some .res

theorem alloc_spec {al : Option Nat} {h : Heap} (hal : AlOK h al) (b : Blk) :
    (allocAt al h b).2[(allocAt al h b).1]? = some b ∧ (∀ i, i ≠ (allocAt al h b).1 → (allocAt al h b).2[i]? = h[i]?) ∧ (h[(allocAt al h b).1]? = none ∨ h[(allocAt al h b).1]? = some .res) := by
  cases al with
  | none =>
    refine ⟨by simp [allocAt], fun i hi => ?_, .inl (by simp [allocAt])⟩
    simp only [allocAt] at hi ⊢
    rcases Nat.lt_trichotomy i h.length with hlt | he | hgt
    · exact List.getElem?_append_left hlt
    · exact absurd he hi
    · rw [List.getElem?_eq_none (by simp; omega), List.getElem?_eq_none (by omega)]
  | some s =>
    have hs : s < h.length := lt_of_some hal
    refine ⟨by simp [allocAt, hs], fun i hi => ?_, .inr hal⟩
    simp only [allocAt] at hi ⊢
    rw [List.getElem?_set, if_neg (Ne.symm hi)]

section
variable {P : Program} {E E' : Env}

theorem heap_lt {w : World} {k : Nat} {o : Obj} (h : w.heap[k]? = some o) : k < w.heap.size := (Array.getElem?_eq_some_iff.1 h).1

/-- what is owned lies in memory -/
theorem Inv.owned_lt (hI : Inv P E) {blk : Nat} (h : Owned E blk) : blk < E.w.heap.size := by
  obtain ⟨b, o, hr, hh⟩ := h
  have hb := hI.blk b
  unfold BlkAt at hb
  rcases hh with ⟨t, es, he⟩ | ⟨t, cs, he⟩
  · rw [he] at hb
    simp only [hr] at hb
    obtain ⟨_, sz, c, T, _, h1, _⟩ := hb
    exact heap_lt h1
  · rw [he] at hb
    obtain ⟨blk', o', c, T, h0, h1, _⟩ := hb
    rw [hr] at h0
    obtain ⟨rfl, rfl⟩ := Prod.mk.inj (Option.some.inj h0)
    exact heap_lt h1

def live (b : Option Blk) : Prop := (∃ t es, b = some (.arr t es true)) ∨ ∃ t cs, b = some (.box t cs)

theorem BlkAt.keep (hI : Inv P E) (hT : Trans E E') {b : Nat} (hh : E'.h[b]? = E.h[b]?) (hr : E'.ρ b = E.ρ b) (hw : ((∃ t es l, E.h[b]? = some (.arr t es l)) ∨ ∃ t cs, E.h[b]? = some (.box t cs)) → ∀ blk o, E.ρ b = some (blk, o) → blk < E.w.heap.size → E'.w.heap[blk]? = E.w.heap[blk]?)
    (him : live E.h[b]? → ∀ blk o, E.ρ b = some (blk, o) → E'.im blk → E.im blk) (h : BlkAt P E b) : BlkAt P E' b := by
  unfold BlkAt at h ⊢
  rw [hh]
  cases hx : E.h[b]? with
  | none => trivial
  | some x =>
    rw [hx] at h
    cases x with
    | dead => trivial
    | res => trivial
    | arr t es l =>
      refine ⟨h.1, ?_⟩
      rw [hr]
      cases hρ : E.ρ b with
      | none => have := h.2; rw [hρ] at this; exact this
      | some p =>
        obtain ⟨blk, o⟩ := p
        have := h.2
        rw [hρ] at this
        obtain ⟨sz, c, T, h1, h2, h3, h4, h5, h6⟩ := this
        exact ⟨sz, c, T, h1, by rw [hw (.inl ⟨t, es, l, hx⟩) _ _ hρ (heap_lt h2)]; exact h2, h3, fun i j hi hj => (h4 i j hi hj).mono hI hT, fun hl hm => h5 hl (him (.inl ⟨t, es, by rw [hx, hl]⟩) _ _ hρ hm), fun hl => hT.im _ (h6 hl)⟩
    | box t cs =>
      obtain ⟨blk, o, c, T, h1, h2, h3, h4, h5⟩ := h
      exact ⟨blk, o, c, T, by rw [hr]; exact h1, by rw [hw (.inr ⟨t, cs, hx⟩) _ _ h1 (heap_lt h2)]; exact h2, h3, fun j hj => (h4 j hj).mono hI hT, fun hm => h5 (him (.inr ⟨t, cs, hx⟩) _ _ h1 hm)⟩

def Env.add (E : Env) (w' : World) (al : Option Nat) (b : Blk) (r : Option (Nat × Nat)) : Env :=
  { w := w', h := (allocAt al E.h b).2, ρ := upd E.ρ (allocAt al E.h b).1 r, im := E.im }

theorem add_trans {w' : World} {al : Option Nat} {b : Blk} {r : Option (Nat × Nat)} (hal : AlOK E.h al) (hg : Grow E.w w') (hr : ∀ blk o, r = some (blk, o) → E.w.heap.size ≤ blk) : Trans E (E.add w' al b r) := by
  obtain ⟨h1, h2, h3⟩ := alloc_spec hal b
  have hne : ∀ i, E.h[i]? ≠ none → E.h[i]? ≠ some .res → i ≠ (allocAt al E.h b).1 := by
    rintro i ha hb rfl
    rcases h3 with h3 | h3
    · exact ha h3
    · exact hb h3
  refine ⟨fun i => ?_, fun i hi hn _ => ?_, fun _ h => h, hg.size, hg.os, hg.tape, hg.output, fun blk hb _ => hg.old blk hb, fun blk c T fz hc => ⟨c, ?_, rfl⟩, fun blk hb ho => ?_, fun _ _ h => .inl h⟩
  · show Compat E.h[i]? (allocAt al E.h b).2[i]?
    by_cases e : i = (allocAt al E.h b).1
    · subst e
      rcases h3 with h3 | h3
      · rw [h3]; trivial
      · rw [h3, h1]; trivial
    · rw [h2 i e]
      exact Compat.refl _
  · show upd E.ρ _ r i = E.ρ i
    exact upd_other _ _ _ _ (hne i (by simp [hi]) hn)
  · rw [show (E.add w' al b r).w = w' from rfl, hg.old blk (heap_lt hc)]
    exact hc
  · obtain ⟨i, o, hρ, hh⟩ := ho
    by_cases e : i = (allocAt al E.h b).1
    · subst e
      have : r = some (blk, o) := by rw [← hρ]; exact (upd_same _ _ _).symm
      have := hr _ _ this
      omega
    · have hρ' : E.ρ i = some (blk, o) := by rw [← hρ]; exact (upd_other _ _ _ _ e).symm
      have e2 : (E.add w' al b r).h[i]? = E.h[i]? := h2 i e
      rw [e2] at hh
      exact ⟨i, o, hρ', hh⟩

theorem add_inv (hI : Inv P E) {w' : World} {al : Option Nat} {b : Blk} {r : Option (Nat × Nat)} (hal : AlOK E.h al) (hg : Grow E.w w') (hr : ∀ blk o, r = some (blk, o) → E.w.heap.size ≤ blk)
    (hb : BlkAt P (E.add w' al b r) (allocAt al E.h b).1) : Inv P (E.add w' al b r) := by
  have hT := add_trans (b := b) hal hg hr
  obtain ⟨h1, h2, h3⟩ := alloc_spec hal b
  have back : ∀ i blk o, i ≠ (allocAt al E.h b).1 → (E.add w' al b r).ρ i = some (blk, o) → ((∃ t es, (E.add w' al b r).h[i]? = some (.arr t es true)) ∨ ∃ t cs, (E.add w' al b r).h[i]? = some (.box t cs)) →
      E.ρ i = some (blk, o) ∧ ((∃ t es, E.h[i]? = some (.arr t es true)) ∨ ∃ t cs, E.h[i]? = some (.box t cs)) := by
    intro i blk o e hρ hh
    have e2 : (E.add w' al b r).h[i]? = E.h[i]? := h2 i e
    rw [e2] at hh
    exact ⟨by rw [← hρ]; exact (upd_other _ _ _ _ e).symm, hh⟩
  refine ⟨fun i => ?_, fun i j blk o o' hi hj ki kj => ?_, fun blk hm => Nat.lt_of_lt_of_le (hI.imlt blk hm) hg.size⟩
  · by_cases e : i = (allocAt al E.h b).1
    · subst e; exact hb
    · exact (hI.blk i).keep hI hT (h2 i e) (upd_other _ _ _ _ e) (fun _ blk o hρ hlt => hg.old blk hlt) (fun _ _ _ _ h => h)
  · by_cases ei : i = (allocAt al E.h b).1 <;> by_cases ej : j = (allocAt al E.h b).1
    · rw [ei, ej]
    · subst ei
      obtain ⟨a1, a2⟩ := back j blk o' ej hj kj
      have : r = some (blk, o) := by rw [← hi]; exact (upd_same _ _ _).symm
      have := hr _ _ this
      have := hI.owned_lt ⟨j, o', a1, a2⟩
      omega
    · subst ej
      obtain ⟨a1, a2⟩ := back i blk o ei hi ki
      have : r = some (blk, o') := by rw [← hj]; exact (upd_same _ _ _).symm
      have := hr _ _ this
      have := hI.owned_lt ⟨i, o, a1, a2⟩
      omega
    · obtain ⟨a1, a2⟩ := back i blk o ei hi ki
      obtain ⟨b1, b2⟩ := back j blk o' ej hj kj
      exact hI.inj i j blk o o' a1 b1 a2 b2

/-- what a step makes of a value -/
def Res (P : Program) (E : Env) (h' : Heap) (x : PV) (v : Value) (w' : World) : Prop :=
  ∃ E', E'.w = w' ∧ E'.h = h' ∧ Trans E E' ∧ Inv P E' ∧ Rep P E' x v

theorem Res.same (hI : Inv P E) {x : PV} {v : Value} (h : Rep P E x v) : Res P E E.h x v E.w := ⟨E, rfl, rfl, Trans.refl E, hI, h⟩

/-- a new variable -/
theorem add_box (hI : Inv P E) {al : Option Nat} (hal : AlOK E.h al) (t T : TypeId) {cs : List PV} {vs : Array Value} (hc : RepCs P E cs vs) :
    Res P E (allocAt al E.h (.box t cs)).2 (.ptr (allocAt al E.h (.box t cs)).1 0) (.pointer (some ⟨E.w.heap.size, 0, none⟩)) { E.w with heap := E.w.heap.push (.cells vs T) } := by
  have hg := Grow.alloc E.w (.cells vs T)
  have hr : ∀ blk o, some (E.w.heap.size, 0) = some (blk, o) → E.w.heap.size ≤ blk := by rintro blk o h; cases h; exact Nat.le_refl _
  have hT := add_trans (b := .box t cs) (r := some (E.w.heap.size, 0)) hal hg hr
  obtain ⟨h1, h2, h3⟩ := alloc_spec hal (.box t cs)
  have hρ : (E.add { E.w with heap := E.w.heap.push (.cells vs T) } al (.box t cs) (some (E.w.heap.size, 0))).ρ (allocAt al E.h (.box t cs)).1 = some (E.w.heap.size, 0) := upd_same _ _ _
  have hh : (E.add { E.w with heap := E.w.heap.push (.cells vs T) } al (.box t cs) (some (E.w.heap.size, 0))).h[(allocAt al E.h (.box t cs)).1]? = some (.box t cs) := h1
  refine ⟨E.add _ al (.box t cs) (some (E.w.heap.size, 0)), rfl, rfl, hT, add_inv hI hal hg hr ?_, .ptr _ _ _ ?_⟩
  · unfold BlkAt
    rw [hh]
    refine ⟨E.w.heap.size, 0, vs, T, hρ, (show (E.w.heap.push (Obj.cells vs T))[E.w.heap.size]? = _ by simp), by simpa using Nat.le_of_eq hc.1, fun j hj => ?_, fun hm => Nat.lt_irrefl _ (hI.imlt _ hm)⟩
    rw [Nat.zero_add]
    exact (hc.2 j hj).mono hI hT
  · unfold PtrAt
    rw [hh]
    exact ⟨_, _, hρ, by simp⟩

/-- a new row -/
theorem add_arr (hI : Inv P E) {al : Option Nat} (hal : AlOK E.h al) (t T : TypeId) {sz : Nat} (hs : elSize P t = some sz) {es : List (List PV)} {c : Array Value} {w' : World} {blk : Nat} (hg : Grow E.w w') (hblk : E.w.heap.size ≤ blk)
    (hw : w'.heap[blk]? = some (.cells c T (0, 0))) (hle : es.length * sz ≤ c.size) (hk : ∀ i, i < es.length → cellsOK (kds P t) (es.getD i []) = true)
    (hc : ∀ i j, i < es.length → j < sz → Rep P E ((es.getD i []).getD j .top) (c.getD (i * sz + j) undef)) {cap : Nat} (hcap : es.length ≤ cap) (hcs : cap * sz ≤ c.size) :
    Res P E (allocAt al E.h (.arr t es true)).2 (.all (allocAt al E.h (.arr t es true)).1) (.slice (some ⟨blk, 0, none⟩) es.length cap) w' := by
  have hr : ∀ b o, some (blk, 0) = some (b, o) → E.w.heap.size ≤ b := by rintro b o h; cases h; exact hblk
  have hT := add_trans (b := .arr t es true) (r := some (blk, 0)) hal hg hr
  obtain ⟨h1, h2, h3⟩ := alloc_spec hal (.arr t es true)
  have hρ : (E.add w' al (.arr t es true) (some (blk, 0))).ρ (allocAt al E.h (.arr t es true)).1 = some (blk, 0) := upd_same _ _ _
  have hh : (E.add w' al (.arr t es true) (some (blk, 0))).h[(allocAt al E.h (.arr t es true)).1]? = some (.arr t es true) := h1
  refine ⟨E.add w' al (.arr t es true) (some (blk, 0)), rfl, rfl, hT, add_inv hI hal hg hr ?_, .all _ es.length _ ?_ ?_⟩
  · unfold BlkAt
    rw [hh]
    refine ⟨hk, ?_⟩
    rw [hρ]
    refine ⟨sz, c, T, hs, hw, by simpa using hle, fun i j hi hj => ?_, fun _ hm => ?_, fun h => by cases h⟩
    · rw [Nat.zero_add]
      exact (hc i j hi hj).mono hI hT
    · have := hI.imlt _ hm
      omega
  · intro t' es' l' e
    rw [hh] at e
    cases e
    rfl
  · unfold SlcAt
    rw [hh]
    refine ⟨by simp, sz, _, cap, hs, rfl, hcap, ?_⟩
    by_cases h0 : cap = 0
    · exact .inl h0
    · exact .inr ⟨blk, 0, c, T, hρ, by simp, hw, by simpa using hcs⟩

/-- an empty row that lies nowhere -/
theorem add_none (hI : Inv P E) {al : Option Nat} (hal : AlOK E.h al) (t : TypeId) {sz : Nat} (hs : elSize P t = some sz) (A : Option Addr) :
    Res P E (allocAt al E.h (.arr t [] true)).2 (.all (allocAt al E.h (.arr t [] true)).1) (.slice A 0 0) E.w := by
  have hr : ∀ b o, (none : Option (Nat × Nat)) = some (b, o) → E.w.heap.size ≤ b := by rintro b o h; cases h
  have hT := add_trans (b := .arr t [] true) (r := none) hal (Grow.refl E.w) hr
  obtain ⟨h1, h2, h3⟩ := alloc_spec hal (.arr t [] true)
  have hρ : (E.add E.w al (.arr t [] true) none).ρ (allocAt al E.h (.arr t [] true)).1 = none := upd_same _ _ _
  have hh : (E.add E.w al (.arr t [] true) none).h[(allocAt al E.h (.arr t [] true)).1]? = some (.arr t [] true) := h1
  refine ⟨E.add E.w al (.arr t [] true) none, rfl, rfl, hT, add_inv hI hal (Grow.refl _) hr ?_, .all _ 0 _ ?_ ?_⟩
  · unfold BlkAt
    rw [hh]
    refine ⟨fun i hi => by simp at hi, ?_⟩
    rw [hρ]
  · intro t' es' l' e
    rw [hh] at e
    cases e
    rfl
  · unfold SlcAt
    rw [hh]
    exact ⟨by simp, sz, A, 0, hs, rfl, Nat.le_refl _, .inl rfl⟩

/-- a row that is written no more -/
theorem freeze_env (hI : Inv P E) (b : Nat) : ∃ E', E'.w = E.w ∧ E'.h = freeze E.h b ∧ E'.ρ = E.ρ ∧ Trans E E' ∧ Inv P E' ∧
    ∀ t es l, E.h[b]? = some (.arr t es l) → E'.h[b]? = some (.arr t es false) ∧ ∀ blk o, E.ρ b = some (blk, o) → E'.im blk := by
  unfold freeze
  cases hb : E.h[b]? with
  | none => exact ⟨E, rfl, rfl, rfl, Trans.refl E, hI, fun t es l e => by cases e⟩
  | some x =>
    cases x with
    | dead => exact ⟨E, rfl, rfl, rfl, Trans.refl E, hI, fun t es l e => by cases e⟩
    | res => exact ⟨E, rfl, rfl, rfl, Trans.refl E, hI, fun t es l e => by cases e⟩
    | box => exact ⟨E, rfl, rfl, rfl, Trans.refl E, hI, fun t es l e => by cases e⟩
    | arr t es l =>
      have hlt := lt_of_some hb
      let E' : Env := { w := E.w, h := E.h.set b (.arr t es false), ρ := E.ρ, im := fun k => E.im k ∨ ∃ o, E.ρ b = some (k, o) }
      have hsame : (E.h.set b (.arr t es false))[b]? = some (.arr t es false) := by simp [hlt]
      have hoth : ∀ i, i ≠ b → (E.h.set b (.arr t es false))[i]? = E.h[i]? := fun i hi => by rw [List.getElem?_set, if_neg (Ne.symm hi)]
      have hown : ∀ blk, Owned E' blk → Owned E blk := by
        rintro blk ⟨i, o, hρ, hh⟩
        by_cases e : i = b
        · subst e
          rcases hh with ⟨t', es', hh⟩ | ⟨t', cs', hh⟩
          · rw [show E'.h[i]? = some (.arr t es false) from hsame] at hh; cases hh
          · rw [show E'.h[i]? = some (.arr t es false) from hsame] at hh; cases hh
        · exact ⟨i, o, hρ, by rw [← hoth i e]; exact hh⟩
      have hT : Trans E E' := by
        refine ⟨fun i => ?_, fun _ _ _ _ => rfl, fun _ h => .inl h, Nat.le_refl _, rfl, rfl, rfl, fun _ _ _ => rfl, fun blk c T fz h => ⟨c, h, rfl⟩, fun blk _ h => hown blk h, fun blk _ hm => ?_⟩
        · show Compat E.h[i]? (E.h.set b (.arr t es false))[i]?
          by_cases e : i = b
          · subst e; rw [hsame, hb]; exact ⟨rfl, rfl, fun h => by cases h⟩
          · rw [hoth i e]; exact Compat.refl _
        · rcases hm with hm | ⟨o, hρ⟩
          · exact .inl hm
          · cases l with
            | true => exact .inr ⟨b, o, hρ, .inl ⟨t, es, hb⟩⟩
            | false =>
              have hq := hI.blk b
              unfold BlkAt at hq
              rw [hb] at hq
              have := hq.2
              rw [hρ] at this
              obtain ⟨_, _, _, _, _, _, _, _, h7⟩ := this
              exact .inl (h7 rfl)
      have hblk := hI.blk b
      unfold BlkAt at hblk
      rw [hb] at hblk
      refine ⟨E', rfl, rfl, rfl, hT, ⟨fun i => ?_, fun i j blk o o' hi hj ki kj => ?_, fun blk hm => ?_⟩, fun t' es' l' e => ?_⟩
      · by_cases e : i = b
        · subst e
          unfold BlkAt
          rw [show E'.h[i]? = some (.arr t es false) from hsame]
          refine ⟨hblk.1, ?_⟩
          show match E.ρ i with | none => _ | some (blk, o) => _
          cases hρ : E.ρ i with
          | none => have := hblk.2; rw [hρ] at this; exact this
          | some p =>
            obtain ⟨blk, o⟩ := p
            have := hblk.2
            rw [hρ] at this
            obtain ⟨sz, c, T, h1, h2, h3, h4, h5, h6⟩ := this
            exact ⟨sz, c, T, h1, h2, h3, fun i j hi hj => (h4 i j hi hj).mono hI hT, (fun h => by cases h), fun _ => .inr ⟨o, hρ⟩⟩
        · have hB := hI.blk i
          unfold BlkAt at hB ⊢
          rw [show E'.h[i]? = E.h[i]? from hoth i e]
          cases hx : E.h[i]? with
          | none => trivial
          | some x =>
            rw [hx] at hB
            cases x with
            | dead => trivial
            | res => trivial
            | arr t2 es2 l2 =>
              refine ⟨hB.1, ?_⟩
              show match E.ρ i with | none => _ | some (blk, o) => _
              cases hρ : E.ρ i with
              | none => have := hB.2; rw [hρ] at this; exact this
              | some p =>
                obtain ⟨blk, o⟩ := p
                have := hB.2
                rw [hρ] at this
                obtain ⟨sz, c, T, h1, h2, h3, h4, h5, h6⟩ := this
                refine ⟨sz, c, T, h1, h2, h3, fun i j hi hj => (h4 i j hi hj).mono hI hT, fun hl hm => ?_, fun hl => .inl (h6 hl)⟩
                rcases hm with hm | ⟨o2, hρ2⟩
                · exact h5 hl hm
                · cases l with
                  | true => exact e (hI.inj i b blk o o2 hρ hρ2 (.inl ⟨t2, es2, by rw [hx, hl]⟩) (.inl ⟨t, es, hb⟩))
                  | false =>
                    have := hblk.2
                    rw [hρ2] at this
                    obtain ⟨_, _, _, _, _, _, _, _, h7⟩ := this
                    exact h5 hl (h7 rfl)
            | box t2 cs2 =>
              obtain ⟨blk, o, c, T, h1, h2, h3, h4, h5⟩ := hB
              refine ⟨blk, o, c, T, h1, h2, h3, fun j hj => (h4 j hj).mono hI hT, fun hm => ?_⟩
              rcases hm with hm | ⟨o2, hρ2⟩
              · exact h5 hm
              · cases l with
                | true => exact e (hI.inj i b blk o o2 h1 hρ2 (.inr ⟨t2, cs2, hx⟩) (.inl ⟨t, es, hb⟩))
                | false =>
                  have := hblk.2
                  rw [hρ2] at this
                  obtain ⟨_, _, _, _, _, _, _, _, h7⟩ := this
                  exact h5 (h7 rfl)
      · have conv : ∀ i : Nat, ((∃ t es, E'.h[i]? = some (.arr t es true)) ∨ ∃ t cs, E'.h[i]? = some (.box t cs)) → ((∃ t es, E.h[i]? = some (.arr t es true)) ∨ ∃ t cs, E.h[i]? = some (.box t cs)) := by
          intro i hh
          by_cases e : i = b
          · subst e
            rcases hh with ⟨t', es', hh⟩ | ⟨t', cs', hh⟩
            · rw [show E'.h[i]? = some (.arr t es false) from hsame] at hh; cases hh
            · rw [show E'.h[i]? = some (.arr t es false) from hsame] at hh; cases hh
          · rw [← hoth i e]; exact hh
        exact hI.inj i j blk o o' hi hj (conv i ki) (conv j kj)
      · rcases hm with hm | ⟨o, hρ⟩
        · exact hI.imlt blk hm
        · have := hblk.2
          rw [hρ] at this
          obtain ⟨_, _, _, _, h2, _⟩ := this
          exact heap_lt h2
      · cases e
        exact ⟨hsame, fun blk o hρ => .inr ⟨o, hρ⟩⟩

end
end Go.Pu
end

section
/- The pure machine, tenth part: rows that are made. -/
set_option linter.unusedSimpArgs false
namespace Go.Pu

section
variable {P : Program} {E : Env}

/-- a slice whose row is written no more is plain data -/
theorem SliceIs.lst {t : TypeId} {es : List (List PV)} {v : Value} (h : SliceIs P E (some t) es v) (him : ∀ blk o (c : Array Value) T fz A n cap, v = .slice (some A) n cap → A = ⟨blk, o, none⟩ → es ≠ [] → E.w.heap[blk]? = some (.cells c T fz) → E.im blk) : Rep P E (.lst t es) v := by
  obtain ⟨A, cap, rfl, hcap, _, hq⟩ := h
  rcases hq with rfl | ⟨t', sz, blk, o, c, T', fz, he, hs, rfl, hb, hle, hk, hr⟩
  · exact .lst0 _ _ _
  · obtain rfl := Option.some.inj he
    by_cases hne : es = []
    · subst hne; exact .lst0 _ _ _
    · exact .lst _ es blk o cap sz c T' fz hs hb (him blk o c T' fz _ _ _ rfl rfl hne hb) hcap hle hk hr

/-- what a step leaves of the memory alone -/
def Step (P : Program) (E : Env) (h' : Heap) (w' : World) (Q : Env → Prop) : Prop := ∃ E', E'.w = w' ∧ E'.h = h' ∧ Trans E E' ∧ Inv P E' ∧ Q E'

theorem own_pure (hI : Inv P E) {b off n : Nat} {t : TypeId} {es : List (List PV)} {l : Bool} {v : Value} (hb : E.h[b]? = some (.arr t es l)) (hle : off + n ≤ es.length) (h : SlcAt P E b off n v) :
    Step P E (freeze E.h b) E.w fun E' => Rep P E' (.lst t ((es.drop off).take n)) v := by
  obtain ⟨E', e1, e2, e3, hT, hI', hf⟩ := freeze_env hI b
  obtain ⟨f1, f2⟩ := hf t es l hb
  refine ⟨E', e1, e2, hT, hI', ?_⟩
  refine (own_is hI' f1 (h.mono hT) hle).lst fun blk o c T fz A m cap hv hA hne hc => ?_
  unfold SlcAt at h
  rw [hb] at h
  obtain ⟨_, sz, A', cap', _, hv', hn, hh⟩ := h
  rw [hv] at hv'
  cases hv'
  rcases hh with hh | ⟨blk', o', c', T', h1, h2, _⟩
  · exfalso
    apply hne
    apply List.eq_nil_of_length_eq_zero
    simp
    omega
  · cases h2
    cases hA
    exact f2 _ _ h1

theorem purCell_env (hI : Inv P E) {k : Kd} {x y : PV} {h1 : Heap} (h : purCell E.h k x = some (y, h1)) {v : Value} (hx : Rep P E x v) :
    Step P E h1 E.w fun E' => Rep P E' y v ∧ cellOK k y = true := by
  have other : (if cellOK k x then some (x, E.h) else none) = some (y, h1) → Step P E h1 E.w fun E' => Rep P E' y v ∧ cellOK k y = true := by
    intro h
    split at h
    · rename_i hk
      cases h
      exact ⟨E, rfl, rfl, Trans.refl E, hI, hx, hk⟩
    · simp at h
  unfold purCell at h
  split at h
  · cases h
    obtain rfl := hx.nils_inv
    exact ⟨E, rfl, rfl, Trans.refl E, hI, .lst0 _ _ _, by simp [cellOK]⟩
  · split at h
    · rename_i t' es l hb
      split at h
      · rename_i e
        subst e
        cases h
        cases hx with
        | all _ n _ hn hh =>
          obtain rfl := hn _ _ _ hb
          obtain ⟨E', e1, e2, e3, e4, e5⟩ := own_pure hI hb (by omega) hh
          refine ⟨E', e1, e2, e3, e4, by simpa using e5, by simp [cellOK]⟩
      · simp at h
    · simp at h
  · split at h
    · rename_i t' es l hb
      split at h
      · rename_i e
        obtain ⟨rfl, hle⟩ := e
        cases h
        cases hx with
        | own _ _ _ _ hh =>
          obtain ⟨E', e1, e2, e3, e4, e5⟩ := own_pure hI hb hle hh
          exact ⟨E', e1, e2, e3, e4, e5, by simp [cellOK]⟩
      · simp at h
    · simp at h
  · exact other h

theorem Step.trans {E1 : Env} {h1 h2 : Heap} {w1 w2 : World} {Q : Env → Prop} {Q' : Env → Prop} (hT : Trans E E1) (_hw : E1.w = w1) (_hh : E1.h = h1) (h : Step P E1 h2 w2 Q) (k : ∀ E', Trans E1 E' → Inv P E' → Q E' → Q' E') : Step P E h2 w2 Q' := by
  obtain ⟨E2, e1, e2, e3, e4, e5⟩ := h
  exact ⟨E2, e1, e2, hT.trans e3, e4, k E2 e3 e4 e5⟩

theorem purCells_env : ∀ {ks : List Kd} {xs ys : List PV} {E : Env} {h1 : Heap} {vs : List Value}, Inv P E → purCells E.h ks xs = some (ys, h1) → xs.length = vs.length → (∀ j, j < xs.length → Rep P E (xs.getD j .top) (vs.getD j undef)) →
    Step P E h1 E.w fun E' => ys.length = xs.length ∧ cellsOK ks ys = true ∧ ∀ j, j < ys.length → Rep P E' (ys.getD j .top) (vs.getD j undef)
  | [], [], ys, E, h1, vs, hI, h, _, _ => by
    simp only [purCells, Option.some.injEq, Prod.mk.injEq] at h
    obtain ⟨rfl, rfl⟩ := h
    exact ⟨E, rfl, rfl, Trans.refl E, hI, rfl, rfl, fun j hj => by simp at hj⟩
  | [], _ :: _, _, _, _, _, _, h, _, _ => by simp [purCells] at h
  | _ :: _, [], _, _, _, _, _, h, _, _ => by simp [purCells] at h
  | _ :: _, _ :: _, _, _, _, [], _, _, hl, _ => by simp at hl
  | k :: ks, x :: xs, ys, E, h1, v :: vs, hI, h, hl, hr => by
    simp only [purCells] at h
    cases hc : purCell E.h k x with
    | none => simp [hc] at h
    | some r =>
      obtain ⟨y, h2⟩ := r
      simp only [hc, Option.bind_some] at h
      cases hs : purCells h2 ks xs with
      | none => simp [hs] at h
      | some s =>
        obtain ⟨zs, h3⟩ := s
        simp only [hs, Option.bind_some, Option.some.injEq, Prod.mk.injEq] at h
        obtain ⟨rfl, rfl⟩ := h
        obtain ⟨E1, e1, e2, e3, e4, e5, e6⟩ := purCell_env hI hc (by simpa using hr 0 (by simp))
        have ih := purCells_env (vs := vs) e4 (by rw [e2]; exact hs) (by simpa using hl) (fun j hj => by
          have := hr (j + 1) (by simp; exact hj)
          exact (by simpa using this : Rep P E _ _).mono hI e3)
        rw [e1] at ih
        refine Step.trans e3 e1 e2 ih fun E' hT hI' hq => ⟨by simp [hq.1], by simp [cellsOK, e6, hq.2.1], fun j hj => ?_⟩
        cases j with
        | zero => simpa using e5.mono e4 hT
        | succ j => simpa using hq.2.2 j (by simpa using hj)

theorem litEls_env {e : TypeId} : ∀ {parts : List (Nat × PV)} {n : Nat} {r : List (List PV)} {E : Env} {h1 : Heap} {vs : List (Nat × Value)}, Inv P E → litEls P e E.h n parts = some (r, h1) → parts.length = vs.length →
    (∀ (j : Nat) (p : Nat × PV), parts[j]? = some p → ∃ q : Nat × Value, vs[j]? = some q ∧ q.1 = p.1 ∧ Rep P E p.2 q.2) →
    Step P E h1 E.w fun E' => r.length = parts.length ∧ (∀ i, i < r.length → cellsOK (kds P e) (r.getD i []) = true) ∧
      ∀ (i : Nat) (q : Nat × Value), vs[i]? = some q → q.1 = n + i ∧ RepCs P E' (r.getD i []) q.2.cells
  | [], n, r, E, h1, [], hI, h, _, _ => by
    simp only [litEls, Option.some.injEq, Prod.mk.injEq] at h
    obtain ⟨rfl, rfl⟩ := h
    exact ⟨E, rfl, rfl, Trans.refl E, hI, rfl, fun i hi => by simp at hi, fun i q hq => by simp at hq⟩
  | [], _, _, _, _, _ :: _, _, _, hl, _ => by simp at hl
  | _ :: _, _, _, _, _, [], _, _, hl, _ => by simp at hl
  | (i, x) :: ps, n, r, E, h1, (i', v) :: vs, hI, h, hl, hq => by
    obtain ⟨q, a1, a2, a3⟩ := hq 0 (i, x) rfl
    simp at a1
    subst a1
    simp only at a2 a3
    subst a2
    simp only [litEls] at h
    split at h
    · rename_i hc
      obtain ⟨rfl, hok⟩ := hc
      cases hp : purCells E.h (kds P e) x.cells with
      | none => simp [hp] at h
      | some s =>
        obtain ⟨ys, h2⟩ := s
        simp only [hp, Option.bind_some] at h
        cases hs : litEls P e h2 (i' + 1) ps with
        | none => simp [hs] at h
        | some z =>
          obtain ⟨zs, h3⟩ := z
          simp only [hs, Option.bind_some, Option.some.injEq, Prod.mk.injEq] at h
          obtain ⟨rfl, rfl⟩ := h
          have hcs := okv_cells a3 hok
          obtain ⟨E1, e1, e2, e3, e4, e5, e6, e7⟩ := purCells_env (vs := v.cells.toList) hI hp (by simpa using hcs.1) (fun j hj => by
            have := hcs.2 j hj
            have ej : v.cells.toList.getD j undef = v.cells.getD j undef := by
              rw [List.getD, Array.getElem?_toList]
              by_cases hb : j < v.cells.size
              · rw [Array.getElem?_eq_getElem hb, Array.getD, dif_pos hb]; rfl
              · rw [Array.getElem?_eq_none (by omega), Array.getD, dif_neg hb]; rfl
            rw [ej]
            exact this)
          have ih := litEls_env (vs := vs) e4 (by rw [e2]; exact hs) (by simpa using hl) (fun j p hj => by
            obtain ⟨q, b1, b2, b3⟩ := hq (j + 1) p (by simpa using hj)
            exact ⟨q, by simpa using b1, b2, b3.mono hI e3⟩)
          rw [e1] at ih
          refine Step.trans e3 e1 e2 ih fun E' hT hI' hR => ⟨by simp [hR.1], fun j hj => ?_, fun j q hj => ?_⟩
          · cases j with
            | zero => simpa using e6
            | succ j => simpa using hR.2.1 j (by simpa using hj)
          · cases j with
            | zero =>
              simp at hj
              subst hj
              refine ⟨by simp, by simpa using e5.trans hcs.1, fun j hj => ?_⟩
              have hj' : j < ys.length := by simpa using hj
              have := (e7 j hj').mono e4 hT
              have ej : v.cells.toList.getD j undef = v.cells.getD j undef := by
                rw [List.getD, Array.getElem?_toList]
                by_cases hb : j < v.cells.size
                · rw [Array.getElem?_eq_getElem hb, Array.getD, dif_pos hb]; rfl
                · rw [Array.getElem?_eq_none (by omega), Array.getD, dif_neg hb]; rfl
              rw [ej] at this
              simpa using this
            | succ j =>
              obtain ⟨c1, c2⟩ := hR.2.2 j q (by simpa using hj)
              exact ⟨by omega, by simpa using c2⟩
    · simp at h

/-- cells of elements, one behind the other -/
theorem fillEls {sz : Nat} : ∀ (parts : List (Nat × List PV)) (n : Nat) (cs : List PV), (∀ (j : Nat) (p : Nat × List PV), parts[j]? = some p → p.1 = n + j ∧ p.2.length = sz) → (n + parts.length) * sz ≤ cs.length →
    ∃ r, fillPV (fun i => some (i * sz, sz)) cs (parts.map fun p => (p.1, PV.agg p.2)) = some r ∧ r.length = cs.length ∧
      ∀ k, r.getD k .top = if n * sz ≤ k ∧ k < (n + parts.length) * sz then ((parts.getD ((k - n * sz) / sz) (0, [])).2).getD ((k - n * sz) % sz) .top else cs.getD k .top
  | [], n, cs, _, _ => ⟨cs, rfl, rfl, fun k => by rw [if_neg (by simp)]⟩
  | (i, ys) :: ps, n, cs, hp, hl => by
    obtain ⟨e1, e2⟩ := hp 0 (i, ys) rfl
    simp only [Nat.add_zero] at e1 e2
    subst e1
    have hm : (i + 1) * sz ≤ cs.length := Nat.le_trans (Nat.mul_le_mul_right _ (by simp)) hl
    have hm' : i * sz + sz ≤ cs.length := by rw [Nat.add_mul, Nat.one_mul] at hm; exact hm
    obtain ⟨s1, s2⟩ := setCells_spec ys cs (i * sz) (by omega)
    obtain ⟨r, h1, h2, h3⟩ := fillEls ps (i + 1) (setCells cs (i * sz) ys) (fun j p hj => by
      have := hp (j + 1) p (by simpa using hj)
      exact ⟨by omega, this.2⟩) (by
      rw [s1]
      have h9 : i + 1 + ps.length = i + (ps.length + 1) := by omega
      rw [h9]
      simpa using hl)
    refine ⟨r, ?_, by rw [h2, s1], fun k => ?_⟩
    · simp only [List.map_cons, fillPV, PV.cells, e2]
      rw [if_pos ⟨trivial, hm'⟩]
      exact h1
    · rw [h3, s2, e2]
      have hsum : (i + (ps.length + 1)) * sz = (i + 1 + ps.length) * sz := by congr 1; omega
      simp only [List.length_cons, hsum]
      have hstep : (i + 1) * sz = i * sz + sz := by rw [Nat.add_mul, Nat.one_mul]
      have hle : (i + 1) * sz ≤ (i + 1 + ps.length) * sz := Nat.mul_le_mul_right _ (by omega)
      by_cases ha : (i + 1) * sz ≤ k ∧ k < (i + 1 + ps.length) * sz
      · have hsz : 0 < sz := by
          rcases Nat.eq_zero_or_pos sz with h0 | h0
          · subst h0; simp at ha
          · exact h0
        rw [if_pos ha, if_pos (by omega)]
        obtain ⟨m, rfl⟩ : ∃ m, k = i * sz + sz + m := ⟨k - (i * sz + sz), by omega⟩
        have f1 : i * sz + sz + m - (i + 1) * sz = m := by omega
        have f2 : i * sz + sz + m - i * sz = sz + m := by omega
        rw [f1, f2, Nat.add_div_left _ hsz, Nat.add_mod_left]
        simp
      · rw [if_neg ha]
        by_cases hb : i * sz ≤ k ∧ k < i * sz + sz
        · rw [if_pos hb, if_pos (by omega)]
          have f1 : (k - i * sz) / sz = 0 := Nat.div_eq_of_lt (by omega)
          have f2 : (k - i * sz) % sz = k - i * sz := Nat.mod_eq_of_lt (by omega)
          rw [f1, f2]
          simp
        · rw [if_neg hb, if_neg (by omega)]

theorem freeze_al {al : Option Nat} {h : Heap} (ha : AlOK h al) (b : Nat) : AlOK (freeze h b) al := by
  cases al with
  | none => trivial
  | some s =>
    unfold freeze
    split
    · rename_i t es l hb
      show (h.set b (.arr t es false))[s]? = some .res
      have : h[s]? = some .res := ha
      rw [List.getElem?_set]
      split
      · rename_i e
        subst e
        rw [hb] at this
        cases this
      · exact this
    · exact ha

theorem purCell_al {al : Option Nat} {h h1 : Heap} {k : Kd} {x y : PV} (hp : purCell h k x = some (y, h1)) (ha : AlOK h al) : AlOK h1 al := by
  unfold purCell at hp
  split at hp
  · cases hp; exact ha
  · split at hp
    · split at hp
      · cases hp; exact freeze_al ha _
      · simp at hp
    · simp at hp
  · split at hp
    · split at hp
      · cases hp; exact freeze_al ha _
      · simp at hp
    · simp at hp
  · split at hp
    · cases hp; exact ha
    · simp at hp

theorem purCells_al {al : Option Nat} : ∀ {ks : List Kd} {xs ys : List PV} {h h1 : Heap}, purCells h ks xs = some (ys, h1) → AlOK h al → AlOK h1 al
  | [], [], ys, h, h1, hp, ha => by simp only [purCells, Option.some.injEq, Prod.mk.injEq] at hp; obtain ⟨_, rfl⟩ := hp; exact ha
  | [], _ :: _, _, _, _, hp, _ => by simp [purCells] at hp
  | _ :: _, [], _, _, _, hp, _ => by simp [purCells] at hp
  | k :: ks, x :: xs, ys, h, h1, hp, ha => by
    simp only [purCells] at hp
    cases hc : purCell h k x with
    | none => simp [hc] at hp
    | some r =>
      obtain ⟨y, h2⟩ := r
      simp only [hc, Option.bind_some] at hp
      cases hs : purCells h2 ks xs with
      | none => simp [hs] at hp
      | some s =>
        obtain ⟨zs, h3⟩ := s
        simp only [hs, Option.bind_some, Option.some.injEq, Prod.mk.injEq] at hp
        obtain ⟨_, rfl⟩ := hp
        exact purCells_al hs (purCell_al hc ha)

theorem litEls_al {al : Option Nat} {e : TypeId} : ∀ {parts : List (Nat × PV)} {n : Nat} {r : List (List PV)} {h h1 : Heap}, litEls P e h n parts = some (r, h1) → AlOK h al → AlOK h1 al
  | [], _, _, h, h1, hp, ha => by simp only [litEls, Option.some.injEq, Prod.mk.injEq] at hp; obtain ⟨_, rfl⟩ := hp; exact ha
  | (i, x) :: ps, n, r, h, h1, hp, ha => by
    simp only [litEls] at hp
    split at hp
    · cases hc : purCells h (kds P e) x.cells with
      | none => simp [hc] at hp
      | some s =>
        obtain ⟨ys, h2⟩ := s
        simp only [hc, Option.bind_some] at hp
        cases hs : litEls P e h2 (n + 1) ps with
        | none => simp [hs] at hp
        | some z =>
          obtain ⟨zs, h3⟩ := z
          simp only [hs, Option.bind_some, Option.some.injEq, Prod.mk.injEq] at hp
          obtain ⟨_, rfl⟩ := hp
          exact litEls_al hs (purCells_al hc ha)
    · simp at hp

theorem Res.trans {E1 : Env} {h2 : Heap} {x : PV} {v : Value} {w2 : World} (hT : Trans E E1) (h : Res P E1 h2 x v w2) : Res P E h2 x v w2 := by
  obtain ⟨E2, e1, e2, e3, e4, e5⟩ := h
  exact ⟨E2, e1, e2, hT.trans e3, e4, e5⟩

theorem run_buildSlice {t e : TypeId} {g : TypeInfo} {z : Value} {sz len : Nat} {vparts : Array (Nat × Value)} {vs : Array Value} (hu : P.underlying t = some (.slice e)) (hg : P.info? e = some g) (hgs : g.size = sz) (hz : g.zero = some z) (hsm : len * sz ≤ 16777216) (w : World)
    (hf : Instr.fill (fun i => some (i * sz, sz)) ((Array.range (len * sz)).map fun i => (if len * sz = 0 then (#[] : Array Value) else z.cells)[i % (if len * sz = 0 then (#[] : Array Value) else z.cells).size]!) vparts.toList = some vs) :
    (Instr.buildSlice t len vparts).run P w = .ok (.slice (some ⟨w.heap.size, 0, none⟩) len len) { w with heap := w.heap.push (.cells vs e) } := by
  have hsm' : ¬ (len * sz > 2 ^ 24) := by omega
  simp only [Instr.buildSlice, Sem.run_bind, run_underlying hu, Result.andThen_ok, run_sizeOf w hg, hgs, Sem.run_ite, if_neg hsm']
  by_cases h0 : len * sz = 0
  · simp only [h0, if_true] at hf
    simp only [h0, if_true, Sem.run_pure, Result.andThen_ok, hf]
    simp [newRow]
  · simp only [h0, if_false] at hf
    simp only [h0, if_false, Sem.run_pure, Result.andThen_ok, run_zeroValue w hg hz, hf]
    simp [newRow]

theorem map_range_some {β : Type} {f : Nat → β} {n j : Nat} {p : β} (h : ((List.range n).map f)[j]? = some p) : j < n ∧ p = f j := by
  rcases Nat.lt_or_ge j n with hh | hh
  · simp [hh] at h
    exact ⟨hh, h.symm⟩
  · rw [List.getElem?_eq_none (by simpa using hh)] at h
    cases h

theorem getD_replicate {α : Type} (n j : Nat) (x : α) : (List.replicate n x).getD j x = x := by
  simp only [List.getD, List.getElem?_replicate]
  split <;> rfl

theorem buildSlice_run (hI : Inv P E) {al : Option Nat} {t : TypeId} {len : Nat} {parts : List (Nat × PV)} {x : PV} {h' : Heap} (h : buildSliceOp P t len parts al E.h = some (x, h')) (hal : AlOK E.h al)
    {vparts : Array (Nat × Value)} (hl : parts.length = vparts.size) (hq : ∀ (j : Nat) (p : Nat × PV), parts[j]? = some p → ∃ q : Nat × Value, vparts.toList[j]? = some q ∧ q.1 = p.1 ∧ Rep P E p.2 q.2) :
    ∃ v w', (Instr.buildSlice t len vparts).run P E.w = .ok v w' ∧ Res P E h' x v w' := by
  unfold buildSliceOp at h
  cases hu : P.underlying t with
  | none => rw [hu] at h; simp at h
  | some d =>
    rw [hu] at h
    cases d <;> simp only [reduceCtorEq] at h
    case slice e =>
      cases hsz : elSize P e with
      | none => simp [hsz] at h
      | some sz =>
        simp only [hsz, Option.bind_some] at h
        obtain ⟨g, hg, hgs, hk, h0⟩ := elSize_spec hsz
        split at h
        · rename_i hc
          obtain ⟨hlen, hsmall⟩ := hc
          cases hp : litEls P e E.h 0 parts with
          | none => simp [hp] at h
          | some r =>
            obtain ⟨es, h1⟩ := r
            simp only [hp, Option.bind_some, Option.some.injEq, Prod.mk.injEq] at h
            obtain ⟨rfl, rfl⟩ := h
            obtain ⟨E1, e1, e2, e3, e4, e5, e6, e7⟩ := litEls_env (vs := vparts.toList) hI hp (by simpa using hl) hq
            obtain ⟨_, z, hg', _, _, _, hz, _⟩ := elSize_zero hsz
            rw [hg] at hg'
            cases hg'
            have hel : es.length = len := by omega
            -- the pure cells
            obtain ⟨r, f1, f2, f3⟩ := fillEls (sz := sz) ((List.range len).map fun i => (i, es.getD i [])) 0 (List.replicate (len * sz) .top) (fun j p hj => by
              obtain ⟨hjl, rfl⟩ := map_range_some hj
              refine ⟨by simp, ?_⟩
              have := (cellsOK_getD (e6 j (by omega))).1
              simp only [List.getD] at this ⊢
              rw [this, ← hk]) (by simp)
            let zs : Array Value := (Array.range (len * sz)).map fun i => (if len * sz = 0 then (#[] : Array Value) else z.cells)[i % (if len * sz = 0 then (#[] : Array Value) else z.cells).size]!
            obtain ⟨vs, g1, g2⟩ := fill_rep (P := P) (E := E1) (place' := fun i => some (i * sz, sz)) (fun i r hr => hr) _ vparts.toList _ zs r
              (⟨by simp [zs], fun j hj => by rw [getD_replicate]; exact .top _⟩) (by simp; omega) (fun j p hj => by
                rw [List.map_map] at hj
                obtain ⟨hjl, rfl⟩ := map_range_some hj
                have hv : j < vparts.toList.length := by simp; omega
                refine ⟨vparts.toList[j], by simp [hv], ?_⟩
                obtain ⟨a, b⟩ := e7 j vparts.toList[j] (by simp [hv])
                exact ⟨by simpa using a, by simpa [PV.cells] using b⟩) f1
            have hrun := run_buildSlice (P := P) (vparts := vparts) hu hg hgs hz hsmall E.w g1
            refine ⟨_, _, hrun, ?_⟩
            have hA := add_arr e4 (al := al) (by rw [e2]; exact litEls_al hp hal) e e hsz (es := es) (c := vs) (w' := { E.w with heap := E.w.heap.push (.cells vs e) }) (blk := E.w.heap.size) (by rw [e1]; exact Grow.alloc _ _) (by rw [e1]; exact Nat.le_refl _)
              (by simp) (by rw [hel, ← g2.1, f2]; simp) e6 (fun i j hi hj => by
                have hlt : i * sz + j < len * sz := by
                  have : (i + 1) * sz ≤ len * sz := Nat.mul_le_mul_right _ (by omega)
                  rw [Nat.add_mul, Nat.one_mul] at this
                  omega
                have := g2.2 (i * sz + j) (by rw [f2]; simpa using hlt)
                rw [f3, if_pos (by simp; omega)] at this
                have q1 : (i * sz + j - 0 * sz) / sz = i := by simp [Nat.mul_comm i sz, Nat.mul_add_div h0, Nat.div_eq_of_lt hj]
                have q2 : (i * sz + j - 0 * sz) % sz = j := by simp [Nat.mul_comm i sz, Nat.mul_add_mod, Nat.mod_eq_of_lt hj]
                rw [q1, q2] at this
                have hi' : i < len := by omega
                simpa [List.getD, hi'] using this) (cap := len) (by omega) (by rw [← g2.1, f2]; simp)
            rw [hel, e2] at hA
            exact hA.trans e3
        · simp at h

end
end Go.Pu
end

section
/- The pure machine, eleventh part: stores, and what is appended. -/
set_option linter.unusedSimpArgs false
namespace Go.Pu

section
variable {P : Program} {E : Env}

theorem rep_oneCell {h : Heap} (hh : E.h = h) {x : PV} {v : Value} (hx : Rep P E x v) (hc : cell1 x = true) (ho : okv h x = true) : v.oneCell' = true := by
  subst hh
  cases hx with
  | top => simp [cell1] at hc
  | agg => simp [cell1] at hc
  | tuple => simp [cell1] at hc
  | all b n v hn hs =>
    simp only [okv] at ho
    unfold SlcAt at hs
    split at ho
    · rename_i hb
      rw [hb] at hs
      obtain ⟨_, sz, A, cap, _, rfl, _⟩ := hs
      rfl
    · simp at ho
  | own b off n v hs =>
    simp only [okv] at ho
    unfold SlcAt at hs
    split at ho
    · rename_i hb
      rw [hb] at hs
      obtain ⟨_, sz, A, cap, _, rfl, _⟩ := hs
      rfl
    · simp at ho
  | ptr b off v hs => obtain ⟨_, _, rfl⟩ := alive_ptr (P := P) (by simpa only [okv] using ho) (.ptr b off v hs); rfl
  | aptr b i off v hs => obtain ⟨_, _, rfl⟩ := alive_ptr (by simpa only [okv] using ho) (.aptr b i off v hs); rfl
  | _ => rfl

theorem rep_oneCell_ok {x : PV} {v : Value} (hx : Rep P E x v) {k : Kd} (hc : cellOK k x = true) : v.oneCell' = true := by
  cases hx <;> first | rfl | (cases k <;> simp [cellOK] at hc)

theorem World.setRow_size (w : World) (g : Nat) (cs : Array Value) : (w.setRow g cs).heap.size = w.heap.size := by simp [World.setRow]

/-- a write into a block of one's own -/
theorem write_env (hI : Inv P E) {b blk o : Nat} (hρ : E.ρ b = some (blk, o)) (hl : live E.h[b]?) {nb : Blk} (hc : Compat E.h[b]? (some nb)) {c c' : Array Value} {T : TypeId}
    (hw : E.w.heap[blk]? = some (.cells c T (0, 0))) (hs : c'.size = c.size) {E' : Env} (hE : E' = { w := E.w.setRow blk c', h := E.h.set b nb, ρ := E.ρ, im := E.im }) :
    Trans E E' ∧ (BlkAt P E' b → Inv P E') := by
  subst hE
  have hlt : b < E.h.length := by
    rcases hl with ⟨t, es, h⟩ | ⟨t, cs, h⟩ <;> exact lt_of_some h
  have hsame : (E.h.set b nb)[b]? = some nb := by simp [hlt]
  have hoth : ∀ i : Nat, i ≠ b → (E.h.set b nb)[i]? = E.h[i]? := fun i hi => by rw [List.getElem?_set, if_neg (Ne.symm hi)]
  have hownB : Owned E blk := ⟨b, o, hρ, hl⟩
  have hT : Trans E { w := E.w.setRow blk c', h := E.h.set b nb, ρ := E.ρ, im := E.im } := by
    refine ⟨fun i => ?_, fun _ _ _ _ => rfl, fun _ h => h, by rw [World.setRow_size]; exact Nat.le_refl _, rfl, rfl, rfl, fun k _ hk => ?_, fun k c0 T0 fz hk => ?_, fun k _ hk => ?_, fun _ _ h => .inl h⟩
    · show Compat E.h[i]? (E.h.set b nb)[i]?
      by_cases e : i = b
      · subst e; rw [hsame]; exact hc
      · rw [hoth i e]; exact Compat.refl _
    · exact setRow_other _ _ _ _ fun e => hk (e ▸ hownB)
    · by_cases e : k = blk
      · subst e
        rw [hw] at hk
        cases hk
        exact ⟨c', setRow_heap _ _ _ _ _ _ hw, hs⟩
      · exact ⟨c0, by rw [← hk]; exact setRow_other _ _ _ _ e, rfl⟩
    · obtain ⟨i, o', hρ', hh⟩ := hk
      by_cases e : i = b
      · subst e
        exact ⟨i, o', hρ', hl⟩
      · exact ⟨i, o', hρ', by rw [← hoth i e]; exact hh⟩
  refine ⟨hT, fun hB => ⟨fun i => ?_, fun i j k o1 o2 hi hj ki kj => ?_, fun k hk => by rw [World.setRow_size]; exact hI.imlt k hk⟩⟩
  · by_cases e : i = b
    · subst e; exact hB
    · refine (hI.blk i).keep hI hT (hoth i e) rfl (fun hx k o' hρ' _ => ?_) (fun _ _ _ _ h => h)
      refine setRow_other _ _ _ _ fun ek => ?_
      subst ek
      rcases hx with ⟨t, es, l, hx⟩ | ⟨t, cs, hx⟩
      · cases l with
        | true => exact e (hI.inj i b k o' o hρ' hρ (.inl ⟨t, es, hx⟩) hl)
        | false =>
          have := hI.blk i
          unfold BlkAt at this
          rw [hx] at this
          simp only [hρ'] at this
          obtain ⟨_, _, _, _, _, _, _, _, _, h7⟩ := this
          exact hI.not_owned (h7 trivial) hownB
      · exact e (hI.inj i b k o' o hρ' hρ (.inr ⟨t, cs, hx⟩) hl)
  · have conv : ∀ i : Nat, live (E.h.set b nb)[i]? → live E.h[i]? := by
      intro i hh
      by_cases e : i = b
      · subst e; exact hl
      · rw [← hoth i e]; exact hh
    exact hI.inj i j k o1 o2 hi hj (conv i ki) (conv j kj)

/-- cells that were written -/
def wr (c : Array Value) (o : Nat) (vs : List Value) : Array Value := (c.toList.take (o + 0) ++ vs ++ c.toList.drop (o + 0 + vs.length)).toArray

theorem wr_size {c : Array Value} {o : Nat} {vs : List Value} (h : o + vs.length ≤ c.size) : (wr c o vs).size = c.size := by
  simp [wr]; omega

theorem wr_getD {c : Array Value} {o : Nat} {vs : List Value} (h : o + vs.length ≤ c.size) (k : Nat) :
    (wr c o vs).getD k undef = if o ≤ k ∧ k < o + vs.length then vs.getD (k - o) undef else c.getD k undef := by
  have e : ∀ (a : Array Value) k, a.getD k undef = a.toList.getD k undef := by
    intro a k
    rw [List.getD, Array.getElem?_toList]
    by_cases hb : k < a.size
    · rw [Array.getElem?_eq_getElem hb, Array.getD, dif_pos hb]; rfl
    · rw [Array.getElem?_eq_none (by omega), Array.getD, dif_neg hb]; rfl
  rw [e, e]
  simp only [wr, Nat.add_zero, List.getD]
  by_cases h1 : k < o
  · rw [if_neg (by omega), List.append_assoc, List.getElem?_append_left (by simp; omega), List.getElem?_take, if_pos h1]
  · by_cases h2 : k < o + vs.length
    · rw [if_pos ⟨by omega, h2⟩, List.append_assoc, List.getElem?_append_right (by simp; omega), List.getElem?_append_left (by simp; omega)]
      congr 2
      simp
      omega
    · rw [if_neg (by omega), List.getElem?_append_right (by simp; omega), List.getElem?_drop]
      congr 2
      simp
      omega

theorem run_storeVar {t : TypeId} {i : TypeInfo} (hi : P.info? t = some i) {blk o : Nat} {c : Array Value} {T : TypeId} {v : Value} (hs : v.cells.size = i.size) {w : World} (hw : w.heap[blk]? = some (.cells c T (0, 0)))
    (hle : o + v.cells.size ≤ c.size) (h1 : ∀ u ∈ v.cells.toList, u.oneCell' = true) : (Instr.storeAt t (.pointer (some ⟨blk, o, none⟩)) v).run P w = .ok () (w.setRow blk (wr c o v.cells.toList)) := by
  have hst := run_storeCells_at P blk o T v.cells.toList 0 c w hw (by simpa using hle) h1
  simp only [Instr.storeAt, Instr.sureAddr, Sem.run_bind, Sem.run_pure, Result.andThen_ok, storeVar, run_sizeOf w hi, hs, ne_eq, not_true_eq_false, if_false]
  exact hst

theorem toList_getD (a : Array Value) (k : Nat) : a.toList.getD k undef = a.getD k undef := by
  rw [List.getD, Array.getElem?_toList]
  by_cases hb : k < a.size
  · rw [Array.getElem?_eq_getElem hb, Array.getD, dif_pos hb]; rfl
  · rw [Array.getElem?_eq_none (by omega), Array.getD, dif_neg hb]; rfl

theorem mem_getD {a : Array Value} {u : Value} (h : u ∈ a.toList) : ∃ j, j < a.size ∧ a.getD j undef = u := by
  obtain ⟨j, hj, rfl⟩ := List.getElem_of_mem h
  have hj' : j < a.size := by simpa using hj
  exact ⟨j, hj', by simp [Array.getD, hj']⟩

theorem cellsOK_of : ∀ {ks : List Kd} {cs : List PV}, cs.length = ks.length → (∀ (j : Nat) (k : Kd), ks[j]? = some k → cellOK k (cs.getD j .top) = true) → cellsOK ks cs = true
  | [], [], _, _ => rfl
  | k :: ks, c :: cs, hl, h => by
    simp only [cellsOK, Bool.and_eq_true]
    exact ⟨by simpa using h 0 k rfl, cellsOK_of (by simpa using hl) fun j k' hj => by simpa using h (j + 1) k' (by simpa using hj)⟩
  | [], _ :: _, hl, _ => by simp at hl
  | _ :: _, [], hl, _ => by simp at hl

theorem storeOp_run (hI : Inv P E) {t : TypeId} {a x : PV} {h' : Heap} (h : storeOp P t E.h a x = some h') {va vx : Value} (ha : Rep P E a va) (hx : Rep P E x vx) :
    ∃ w', (Instr.storeAt t va vx).run P E.w = .ok () w' ∧ Step P E h' w' fun _ => True := by
  unfold storeOp at h
  cases hi : P.info? t with
  | none => simp [hi] at h
  | some i =>
    simp only [hi] at h
    split at h
    · simp at h
    · rename_i hc
      simp only [not_or, Bool.not_eq_false, Decidable.not_not] at hc
      obtain ⟨hs, h1, hok, hoks⟩ := hc
      have hcs := okv_cells hx hok
      have hone : ∀ u ∈ vx.cells.toList, u.oneCell' = true := by
        intro u hu
        obtain ⟨j, hj, rfl⟩ := mem_getD hu
        have hjl : j < x.cells.length := by rw [hcs.1]; exact hj
        have hm : x.cells.getD j .top ∈ x.cells := by
          rw [List.getD, List.getElem?_eq_getElem hjl]
          exact List.getElem_mem hjl
        exact rep_oneCell rfl (hcs.2 j hjl) (List.all_eq_true.1 h1 _ hm) (List.all_eq_true.1 hoks _ hm)
      have hvs : vx.cells.size = i.size := by rw [← hcs.1]; exact hs
      split at h
      · rename_i b off
        split at h
        · rename_i T cs hb
          split at h
          · rename_i hle
            obtain rfl := Option.some.inj h
            cases ha with
            | ptr _ _ _ hh =>
              unfold PtrAt at hh
              rw [hb] at hh
              obtain ⟨blk, o, hρ, rfl⟩ := hh
              have hB := hI.blk b
              unfold BlkAt at hB
              rw [hb] at hB
              obtain ⟨blk', o', c, T', h1', h2, h3, h4, h5⟩ := hB
              rw [hρ] at h1'
              obtain ⟨rfl, rfl⟩ := Prod.mk.inj (Option.some.inj h1')
              have hfit : o + off + vx.cells.toList.length ≤ c.size := by simp; omega
              obtain ⟨s1, s2⟩ := setCells_spec x.cells cs off (by omega)
              obtain ⟨hT, hN⟩ := write_env hI hρ (.inr ⟨T, cs, hb⟩) (nb := .box T (setCells cs off x.cells)) (by rw [hb]; exact ⟨rfl, s1⟩) h2 (wr_size hfit) rfl
              refine ⟨_, run_storeVar hi hvs h2 (by simpa using hfit) hone, _, rfl, rfl, hT, hN ?_, trivial⟩
              unfold BlkAt
              rw [show (E.h.set b (.box T (setCells cs off x.cells)))[b]? = some (.box T (setCells cs off x.cells)) by simp [lt_of_some hb]]
              refine ⟨blk, o, _, T', hρ, setRow_heap _ _ _ _ _ _ h2, by rw [s1, wr_size hfit]; exact h3, fun j hj => ?_, h5⟩
              rw [s1] at hj
              rw [s2, wr_getD hfit]
              by_cases hk : off ≤ j ∧ j < off + x.cells.length
              · rw [if_pos hk, if_pos (by simp; omega), toList_getD]
                have := hcs.2 (j - off) (by omega)
                rw [show o + j - (o + off) = j - off by omega]
                exact this.mono hI hT
              · rw [if_neg hk, if_neg (by simp; omega)]
                exact (h4 j hj).mono hI hT
          · simp at h
        · simp at h
      · rename_i b j off
        split at h
        · rename_i T es hb
          split at h
          · rename_i hle
            cases hp : purCells E.h (((kds P T).drop off).take i.size) x.cells with
            | none => simp [hp] at h
            | some r =>
              obtain ⟨ys, hh1⟩ := r
              simp only [hp, Option.bind_some] at h
              split at h
              · rename_i t2 es2 hb2
                obtain rfl := Option.some.inj h
                obtain ⟨E1, e1, e2, e3, e4, e5, e6, e7⟩ := purCells_env (vs := vx.cells.toList) hI hp (by simpa using hcs.1) (fun j hj => by rw [toList_getD]; exact hcs.2 j hj)
                have hb1 : E1.h[b]? = some (.arr t2 es2 true) := by rw [e2]; exact hb2
                have hcomp := e3.compat b
                rw [hb, hb1] at hcomp
                obtain ⟨rfl, hlen, _⟩ := hcomp
                have ha1 := ha.mono hI e3
                cases ha1 with
                | aptr _ _ _ _ hh =>
                  unfold AptrAt at hh
                  rw [hb1] at hh
                  obtain ⟨hj, sz, blk, o, hsz, hρ, rfl⟩ := hh
                  have hB := e4.blk b
                  unfold BlkAt at hB
                  rw [hb1] at hB
                  simp only [hρ] at hB
                  obtain ⟨hk, sz', c, T', hs', h2, h3, h4, h5, h6⟩ := hB
                  rw [hsz] at hs'
                  obtain rfl := Option.some.inj hs'
                  obtain ⟨_, _, _, hkl, h0⟩ := elSize_spec hsz
                  have hyl : ys.length = i.size := by omega
                  have hel : (es2.getD j []).length = sz := by rw [(cellsOK_getD (hk j hj)).1, hkl]
                  have hoff : off + i.size ≤ sz := by rw [hkl]; exact hle.2
                  have hmul : (j + 1) * sz ≤ es2.length * sz := Nat.mul_le_mul_right _ hj
                  rw [Nat.add_mul, Nat.one_mul] at hmul
                  have hfit : o + j * sz + off + vx.cells.toList.length ≤ c.size := by simp; omega
                  obtain ⟨s1, s2⟩ := setCells_spec ys (es2.getD j []) off (by omega)
                  have hw1 : E1.w.heap[blk]? = some (.cells c T' (0, 0)) := h2
                  obtain ⟨hT, hN⟩ := write_env e4 hρ (.inl ⟨T, es2, hb1⟩) (nb := .arr T (es2.set j (setCells (es2.getD j []) off ys)) true) (by rw [hb1]; exact ⟨rfl, by simp, id⟩) h2 (wr_size hfit) rfl
                  rw [← e1]
                  refine ⟨_, run_storeVar hi hvs h2 (by simpa using hfit) hone, _, rfl, by rw [e2], e3.trans hT, hN ?_, trivial⟩
                  unfold BlkAt
                  rw [show (E1.h.set b (.arr T (es2.set j (setCells (es2.getD j []) off ys)) true))[b]? = some (.arr T (es2.set j (setCells (es2.getD j []) off ys)) true) by simp [lt_of_some hb1]]
                  have hget : ∀ q, q < es2.length → (es2.set j (setCells (es2.getD j []) off ys)).getD q [] = if j = q then setCells (es2.getD j []) off ys else es2.getD q [] := by
                    intro q hq
                    by_cases e : j = q
                    · subst e; rw [if_pos rfl, getD_set_same _ _ _ _ hj]
                    · rw [if_neg e, getD_set_other _ _ _ _ _ e]
                  refine ⟨fun q hq => ?_, ?_⟩
                  · have hq' : q < es2.length := by simpa using hq
                    rw [hget q hq']
                    by_cases e : j = q
                    · subst e
                      rw [if_pos rfl]
                      obtain ⟨l1, l2⟩ := cellsOK_getD (hk j hj)
                      obtain ⟨l3, l4⟩ := cellsOK_getD e6
                      refine cellsOK_of (by rw [s1]; exact l1) fun r k' hr => ?_
                      rw [s2]
                      by_cases hkk : off ≤ r ∧ r < off + ys.length
                      · rw [if_pos hkk]
                        refine l4 (r - off) k' ?_
                        rw [List.getElem?_take, if_pos (by omega), List.getElem?_drop, show off + (r - off) = r by omega]
                        exact hr
                      · rw [if_neg hkk]
                        exact l2 r k' hr
                    · rw [if_neg e]
                      exact hk q hq'
                  · show match E1.ρ b with | none => _ | some (blk, o) => _
                    rw [hρ]
                    refine ⟨sz, _, T', hsz, setRow_heap _ _ _ _ _ _ h2, by rw [wr_size hfit]; simpa using h3, fun q r hq hr => ?_, (fun _ => h5 trivial), (fun h => by cases h)⟩
                    have hq' : q < es2.length := by simpa using hq
                    rw [hget q hq', wr_getD hfit]
                    by_cases e : j = q
                    · subst e
                      rw [if_pos rfl, s2]
                      by_cases hkk : off ≤ r ∧ r < off + ys.length
                      · rw [if_pos hkk, if_pos (by simp; omega), show o + j * sz + r - (o + j * sz + off) = r - off by omega]
                        exact (e7 (r - off) (by omega)).mono e4 hT
                      · rw [if_neg hkk, if_neg (by simp; omega)]
                        exact (h4 j r hj hr).mono e4 hT
                    · rw [if_neg e, if_neg]
                      · exact (h4 q r hq' hr).mono e4 hT
                      · rcases Nat.lt_or_gt_of_ne e with hlt | hgt
                        · have : (j + 1) * sz ≤ q * sz := Nat.mul_le_mul_right _ hlt
                          rw [Nat.add_mul, Nat.one_mul] at this
                          simp; omega
                        · have : (q + 1) * sz ≤ j * sz := Nat.mul_le_mul_right _ hgt
                          rw [Nat.add_mul, Nat.one_mul] at this
                          simp; omega
              · simp at h
          · simp at h
        · simp at h
      · simp at h

end
end Go.Pu
end

section
/- The pure machine, twelfth part: what is appended; rows that are made with a length. -/
set_option linter.unusedSimpArgs false
namespace Go.Pu

section
variable {P : Program} {E : Env}

/-- what is appended: its cells, whatever is drawn -/
structure News (P : Program) (E : Env) (e : TypeId) (sz : Nat) (ys : List (List PV)) (v : Value) (news : Array Value) : Prop where
  len : ∀ w, (Builtin.lenOf v).run P w = .ok ys.length w
  cells : ∀ w, w.heap = E.w.heap → (Builtin.firstCells sz ys.length v).run P w = .ok news w
  size : news.size = ys.length * sz
  ok : ∀ i, i < ys.length → cellsOK (kds P e) (ys.getD i []) = true
  rep : ∀ i j, i < ys.length → j < sz → Rep P E ((ys.getD i []).getD j .top) (news.getD (i * sz + j) undef)

theorem firstCells_at {blk o sz n cap : Nat} {c : Array Value} {T : TypeId} {fz : Nat × Nat} {w : World} (hb : w.heap[blk]? = some (.cells c T fz)) (hn : o + n * sz ≤ c.size) (m : Nat) :
    (Builtin.firstCells sz n (.slice (some ⟨blk, o, none⟩) m cap)).run P w = .ok ((List.range (n * sz)).map fun j => c.getD (o + j) undef).toArray w := by
  simp only [Builtin.firstCells]
  exact run_loadCells_at w hb hn

theorem news_slice {T : Option TypeId} {e : TypeId} {sz : Nat} (hs : elSize P e = some sz) {ys : List (List PV)} {v : Value} (h : SliceIs P E T ys v) (hT : T = none ∨ T = some e) : ∃ news, News P E e sz ys v news := by
  obtain ⟨A, cap, rfl, hcap, _, hq⟩ := h
  rcases hq with rfl | ⟨t, sz', blk, o, c, T', fz, rfl, hs', rfl, hb, hle, hk, hr⟩
  · refine ⟨#[], ⟨fun w => by simp [Builtin.lenOf], fun w _ => ?_, by simp, fun i hi => by simp at hi, fun i j hi => by simp at hi⟩⟩
    cases A <;> simp [Builtin.firstCells, loadCells, loadCellsFrom]
  · have : t = e := by rcases hT with h | h <;> simp at h; exact h
    subst this
    rw [hs] at hs'
    obtain rfl := Option.some.inj hs'
    refine ⟨_, ⟨fun w => by simp [Builtin.lenOf], fun w hw => firstCells_at (by rw [hw]; exact hb) hle _, by simp, hk, fun i j hi hj => ?_⟩⟩
    have : (i + 1) * sz ≤ ys.length * sz := Nat.mul_le_mul_right _ hi
    rw [Nat.add_mul, Nat.one_mul] at this
    rw [getD_map_range _ _ _ (by omega), ← Nat.add_assoc]
    exact hr i j hi hj

theorem news_string {e : TypeId} (hk : kdOf P e = .int .u8) {sz : Nat} (hs : elSize P e = some sz) (s : ByteArray) : ∃ news, News P E e sz (bytesOf s) (.string s) news := by
  have hsz : sz = 1 := by
    obtain ⟨_, _, _, h, _⟩ := elSize_spec hs
    rw [h, kds_int hk]
    rfl
  subst hsz
  have hl : (bytesOf s).length = s.size := by simp [bytesOf]
  have hd : ∀ i, i < s.size → s.data.toList.getD i 0 = s.data[i]?.getD 0 := fun i _ => by rw [List.getD, Array.getElem?_toList]
  have hg : ∀ i, i < s.size → (bytesOf s).getD i [] = [.int .u8 (s.data.toList.getD i 0).toNat] := by
    intro i hi
    have hi' : i < s.data.size := hi
    rw [hd i hi, Array.getElem?_eq_getElem hi']
    simp only [bytesOf, List.getD, List.getElem?_map, Array.getElem?_toList, Array.getElem?_eq_getElem hi']
    rfl
  refine ⟨s.data.map fun b => Value.int .u8 b.toNat, ⟨fun w => by simp [Builtin.lenOf, hl], fun w _ => ?_, by simp [hl], fun i hi => ?_, fun i j hi hj => ?_⟩⟩
  · simp only [Builtin.firstCells, hl]
    have : (s.extract 0 s.size).data = s.data := by
      rw [ByteArray.data_extract]
      exact Array.extract_size
    rw [this]
    rfl
  · rw [hg i (by omega), kds_int hk]
    simp [cellsOK, cellOK]
  · obtain rfl : j = 0 := by omega
    have hi' : i < s.data.size := by rw [hl] at hi; exact hi
    rw [hg i (by omega)]
    have : (s.data.map fun b => Value.int IntKind.u8 b.toNat).getD (i * 1 + 0) undef = .int .u8 (s.data.toList.getD i 0).toNat := by
      have hi2 : i * 1 + 0 < (s.data.map fun b => Value.int IntKind.u8 b.toNat).size := by simpa using hi'
      rw [hd i (by omega), Array.getElem?_eq_getElem hi', Array.getD, dif_pos hi2]
      simp
    rw [this]
    exact .int _ _

theorem News.one {e : TypeId} {sz : Nat} {ys : List (List PV)} {v : Value} {news : Array Value} (h : News P E e sz ys v news) (hs : elSize P e = some sz) : ∀ u ∈ news.toList, u.oneCell' = true := by
  intro u hu
  obtain ⟨k, hk, rfl⟩ := mem_getD hu
  obtain ⟨_, _, _, hkl, h0⟩ := elSize_spec hs
  rw [h.size] at hk
  have hi : k / sz < ys.length := (Nat.div_lt_iff_lt_mul h0).2 hk
  have hj : k % sz < sz := Nat.mod_lt _ h0
  have := h.rep (k / sz) (k % sz) hi hj
  rw [Nat.mul_comm, Nat.div_add_mod] at this
  obtain ⟨l1, l2⟩ := cellsOK_getD (h.ok _ hi)
  have hkd : (kds P e)[k % sz]? = some ((kds P e)[k % sz]'(by omega)) := by simp
  exact rep_oneCell_ok this (l2 _ _ hkd)

theorem getD_append (xs ys : List (List PV)) (i : Nat) : (xs ++ ys).getD i [] = if i < xs.length then xs.getD i [] else ys.getD (i - xs.length) [] := by
  simp only [List.getD]
  split
  · rename_i h; rw [List.getElem?_append_left h]
  · rename_i h; rw [List.getElem?_append_right (by omega)]

theorem kill_al {al : Option Nat} {h : Heap} (ha : AlOK h al) {b : Nat} {x : Blk} (hb : h[b]? = some x) (hx : x ≠ .res) : AlOK (h.set b .dead) al := by
  cases al with
  | none => trivial
  | some s =>
    have : h[s]? = some .res := ha
    show (h.set b .dead)[s]? = some .res
    rw [List.getElem?_set]
    split
    · rename_i e
      subst e
      rw [hb] at this
      exact absurd (Option.some.inj this) hx
    · exact this

/-- a row that is read no more -/
theorem kill_env (hI : Inv P E) {b : Nat} {t : TypeId} {es : List (List PV)} {l : Bool} (hb : E.h[b]? = some (.arr t es l)) :
    ∃ E', E'.w = E.w ∧ E'.h = E.h.set b .dead ∧ Trans E E' ∧ Inv P E' := by
  have hlt := lt_of_some hb
  let E' : Env := { w := E.w, h := E.h.set b .dead, ρ := E.ρ, im := E.im }
  have hsame : (E.h.set b .dead)[b]? = some .dead := by simp [hlt]
  have hoth : ∀ i : Nat, i ≠ b → (E.h.set b .dead)[i]? = E.h[i]? := fun i hi => by rw [List.getElem?_set, if_neg (Ne.symm hi)]
  have conv : ∀ i : Nat, live (E.h.set b .dead)[i]? → live E.h[i]? ∧ i ≠ b := by
    intro i hh
    by_cases e : i = b
    · subst e
      rw [hsame] at hh
      rcases hh with ⟨_, _, hh⟩ | ⟨_, _, hh⟩ <;> cases hh
    · rw [hoth i e] at hh; exact ⟨hh, e⟩
  have hT : Trans E E' := by
    refine ⟨fun i => ?_, fun _ _ _ _ => rfl, fun _ h => h, Nat.le_refl _, rfl, rfl, rfl, fun _ _ _ => rfl, fun k c T fz h => ⟨c, h, rfl⟩, fun k _ hk => ?_, fun _ _ h => .inl h⟩
    · show Compat E.h[i]? (E.h.set b .dead)[i]?
      by_cases e : i = b
      · subst e; rw [hsame, hb]; trivial
      · rw [hoth i e]; exact Compat.refl _
    · obtain ⟨i, o, hρ, hh⟩ := hk
      exact ⟨i, o, hρ, (conv i hh).1⟩
  refine ⟨E', rfl, rfl, hT, ⟨fun i => ?_, fun i j k o1 o2 hi hj ki kj => hI.inj i j k o1 o2 hi hj (conv i ki).1 (conv j kj).1, hI.imlt⟩⟩
  by_cases e : i = b
  · subst e
    unfold BlkAt
    rw [show E'.h[i]? = some .dead from hsame]
    trivial
  · exact (hI.blk i).keep hI hT (hoth i e) rfl (fun _ _ _ _ _ => rfl) (fun _ _ _ _ h => h)

/-- in the row's own place -/
theorem append_room (hI : Inv P E) {al : Option Nat} (hal : AlOK E.h al) {e : TypeId} {sz : Nat} (hs : elSize P e = some sz) {b off n : Nat} {es0 : List (List PV)} (hb : E.h[b]? = some (.arr e es0 true)) (hle : off + n ≤ es0.length)
    {ys : List (List PV)} {vx : Value} {news : Array Value} (hn : News P E e sz ys vx news) {blk o cap : Nat} {c : Array Value} {T : TypeId} (hρ : E.ρ b = some (blk, o)) (hw : E.w.heap[blk]? = some (.cells c T (0, 0)))
    (hc : o + (off + cap) * sz ≤ c.size) (hroom : n + ys.length ≤ cap) :
    Res P E (allocAt al (E.h.set b .dead) (.arr e (((es0.drop off).take n) ++ ys) true)).2 (.all (allocAt al (E.h.set b .dead) (.arr e (((es0.drop off).take n) ++ ys) true)).1)
      (.slice (some ⟨blk, o + off * sz, none⟩) (n + ys.length) cap) (E.w.setRow blk (wr c (o + off * sz + n * sz) news.toList)) := by
  have hlt := lt_of_some hb
  have hlen : ((es0.drop off).take n).length = n := by simp; omega
  generalize hes : (es0.drop off).take n ++ ys = es
  have hesl : es.length = n + ys.length := by rw [← hes, List.length_append, hlen]
  have hal0 : AlOK (E.h.set b .dead) al := kill_al hal hb (by simp)
  obtain ⟨a1, a2, a3⟩ := alloc_spec hal0 (.arr e es true)
  generalize hid : (allocAt al (E.h.set b .dead) (.arr e es true)).1 = id at *
  generalize hh' : (allocAt al (E.h.set b .dead) (.arr e es true)).2 = h' at *
  have hsame : (E.h.set b .dead)[b]? = some .dead := by simp [hlt]
  have hoth : ∀ i : Nat, i ≠ b → (E.h.set b .dead)[i]? = E.h[i]? := fun i hi => by rw [List.getElem?_set, if_neg (Ne.symm hi)]
  have hidb : id ≠ b := by
    rintro rfl
    rw [hsame] at a3
    rcases a3 with a3 | a3 <;> cases a3
  have hE3 : E.h[id]? = none ∨ E.h[id]? = some .res := by rw [← hoth id hidb]; exact a3
  have hold : ∀ i : Nat, i ≠ id → i ≠ b → h'[i]? = E.h[i]? := fun i h1 h2 => (a2 i h1).trans (hoth i h2)
  have hbd : h'[b]? = some .dead := (a2 b (Ne.symm hidb)).trans hsame
  have hcap : (off + cap) * sz = off * sz + cap * sz := Nat.add_mul _ _ _
  have hnm : (n + ys.length) * sz ≤ cap * sz := Nat.mul_le_mul_right _ hroom
  rw [Nat.add_mul] at hnm
  have hfit : o + off * sz + n * sz + news.toList.length ≤ c.size := by simp [hn.size]; omega
  have hlB : live E.h[b]? := .inl ⟨e, es0, hb⟩
  have hownB : Owned E blk := ⟨b, o, hρ, hlB⟩
  let E' : Env := { w := E.w.setRow blk (wr c (o + off * sz + n * sz) news.toList), h := h', ρ := upd E.ρ id (some (blk, o + off * sz)), im := E.im }
  have hρ' : E'.ρ id = some (blk, o + off * sz) := upd_same _ _ _
  have hρo : ∀ i, i ≠ id → E'.ρ i = E.ρ i := fun i hi => upd_other _ _ _ _ hi
  have conv : ∀ i : Nat, i ≠ id → live h'[i]? → live E.h[i]? ∧ i ≠ b := by
    intro i h1 hh
    by_cases e2 : i = b
    · subst e2
      rw [hbd] at hh
      rcases hh with ⟨_, _, hh⟩ | ⟨_, _, hh⟩ <;> cases hh
    · rw [hold i h1 e2] at hh; exact ⟨hh, e2⟩
  have hT : Trans E E' := by
    refine ⟨fun i => ?_, fun i hi hr hd => ?_, fun _ h => h, by rw [show E'.w = _ from rfl, World.setRow_size]; exact Nat.le_refl _, rfl, rfl, rfl, fun k _ hk => setRow_other _ _ _ _ fun e2 => hk (e2 ▸ hownB), fun k c0 T0 fz hk => ?_, fun k _ hk => ?_, fun _ _ h => .inl h⟩
    · show Compat E.h[i]? h'[i]?
      by_cases e1 : i = id
      · subst e1
        rcases hE3 with h3 | h3
        · rw [h3]; trivial
        · rw [h3, a1]; trivial
      · by_cases e2 : i = b
        · subst e2; rw [hb, hbd]; trivial
        · rw [hold i e1 e2]; exact Compat.refl _
    · refine hρo i fun e1 => ?_
      subst e1
      rcases hE3 with h3 | h3
      · simp [hi] at h3
      · exact hr h3
    · by_cases e2 : k = blk
      · subst e2
        rw [hw] at hk
        cases hk
        exact ⟨_, setRow_heap _ _ _ _ _ _ hw, wr_size hfit⟩
      · exact ⟨c0, by rw [← hk]; exact setRow_other _ _ _ _ e2, rfl⟩
    · obtain ⟨i, o', hr', hh⟩ := hk
      by_cases e1 : i = id
      · subst e1
        rw [hρ'] at hr'
        cases hr'
        exact hownB
      · rw [hρo i e1] at hr'
        exact ⟨i, o', hr', (conv i e1 hh).1⟩
  have hB := hI.blk b
  unfold BlkAt at hB
  rw [hb] at hB
  simp only [hρ] at hB
  obtain ⟨hk, sz', c1, T1, hs', h2, h3, h4, h5, h6⟩ := hB
  rw [hs] at hs'
  obtain rfl := Option.some.inj hs'
  rw [hw] at h2
  cases h2
  have hgetl : ∀ i, i < n → es.getD i [] = es0.getD (off + i) [] := by
    intro i hi
    rw [← hes, getD_append, if_pos (by omega), getD_drop_take_l _ _ _ _ hi]
  have hgetr : ∀ i, n ≤ i → es.getD i [] = ys.getD (i - n) [] := by
    intro i hi
    rw [← hes, getD_append, if_neg (by omega), hlen]
  have hblk : BlkAt P E' id := by
    unfold BlkAt
    rw [show E'.h[id]? = some (.arr e es true) from a1]
    refine ⟨fun i hi => ?_, ?_⟩
    · by_cases hin : i < n
      · rw [hgetl i hin]; exact hk _ (by omega)
      · rw [hgetr i (by omega)]; exact hn.ok _ (by omega)
    · rw [hρ']
      have hsl : es.length * sz = n * sz + ys.length * sz := by rw [hesl, Nat.add_mul]
      refine ⟨sz, _, T, hs, setRow_heap _ _ _ _ _ _ hw, by rw [wr_size hfit]; omega, fun i j hi hj => ?_, fun _ => h5 trivial, fun h => by cases h⟩
      rw [wr_getD hfit, toList_getD]
      by_cases hin : i < n
      · have : (i + 1) * sz ≤ n * sz := Nat.mul_le_mul_right _ hin
        rw [Nat.add_mul, Nat.one_mul] at this
        rw [if_neg (by omega), hgetl i hin]
        have := h4 (off + i) j (by omega) hj
        rw [Nat.add_mul, ← Nat.add_assoc] at this
        exact this.mono hI hT
      · obtain ⟨m, rfl⟩ : ∃ m, i = n + m := ⟨i - n, by omega⟩
        have hm : m < ys.length := by omega
        have h9 : (m + 1) * sz ≤ ys.length * sz := Nat.mul_le_mul_right _ hm
        rw [Nat.add_mul, Nat.one_mul] at h9
        have h8 : (n + m) * sz = n * sz + m * sz := Nat.add_mul _ _ _
        rw [if_pos (by simp [hn.size]; omega), hgetr _ (by omega), show n + m - n = m by omega, show o + off * sz + (n + m) * sz + j - (o + off * sz + n * sz) = m * sz + j by omega]
        exact (hn.rep m j hm hj).mono hI hT
  refine ⟨E', rfl, rfl, hT, ⟨fun i => ?_, fun i j k o1 o2 hi hj ki kj => ?_, fun k hk => by rw [show E'.w = _ from rfl, World.setRow_size]; exact hI.imlt k hk⟩, .all _ es.length _ ?_ ?_⟩
  · by_cases e1 : i = id
    · subst e1; exact hblk
    · by_cases e2 : i = b
      · subst e2
        unfold BlkAt
        rw [show E'.h[i]? = some .dead from hbd]
        trivial
      · refine (hI.blk i).keep hI hT (hold i e1 e2) (hρo i e1) (fun hx k o' hr' _ => ?_) (fun _ _ _ _ h => h)
        refine setRow_other _ _ _ _ fun ek => ?_
        subst ek
        rcases hx with ⟨t, es', l, hx⟩ | ⟨t, cs, hx⟩
        · cases l with
          | true => exact e2 (hI.inj i b k o' o hr' hρ (.inl ⟨t, es', hx⟩) hlB)
          | false =>
            have := hI.blk i
            unfold BlkAt at this
            rw [hx] at this
            simp only [hr'] at this
            obtain ⟨_, _, _, _, _, _, _, _, _, h7⟩ := this
            exact hI.not_owned (h7 trivial) hownB
        · exact e2 (hI.inj i b k o' o hr' hρ (.inr ⟨t, cs, hx⟩) hlB)
  · by_cases e1 : i = id <;> by_cases e2 : j = id
    · rw [e1, e2]
    · subst e1
      rw [hρ'] at hi
      cases hi
      rw [hρo j e2] at hj
      obtain ⟨k1, k2⟩ := conv j e2 kj
      exact absurd (hI.inj j b _ _ _ hj hρ k1 hlB) k2
    · subst e2
      rw [hρ'] at hj
      cases hj
      rw [hρo i e1] at hi
      obtain ⟨k1, k2⟩ := conv i e1 ki
      exact absurd (hI.inj i b _ _ _ hi hρ k1 hlB) k2
    · rw [hρo i e1] at hi
      rw [hρo j e2] at hj
      exact hI.inj i j k o1 o2 hi hj (conv i e1 ki).1 (conv j e2 kj).1
  · intro t' es' l' e3
    rw [show E'.h[id]? = some (.arr e es true) from a1] at e3
    cases e3
    rfl
  · unfold SlcAt
    rw [show E'.h[id]? = some (.arr e es true) from a1]
    refine ⟨by omega, sz, _, cap, hs, by rw [hesl], by omega, ?_⟩
    by_cases h0 : cap = 0
    · exact .inl h0
    · exact .inr ⟨blk, o + off * sz, _, T, hρ', by simp, setRow_heap _ _ _ _ _ _ hw, by rw [wr_size hfit]; simp; omega⟩

end
end Go.Pu
end

section
/- The pure machine, thirteenth part: append, make. -/
set_option linter.unusedSimpArgs false
namespace Go.Pu

section
variable {P : Program} {E : Env}

def sliceOrString (d : TypeDesc) : Bool := match d with | .slice _ | .string => true | _ => false

theorem run_append_room' {tys : Array TypeId} {sT xT ty e : TypeId} {d : TypeDesc} {g : TypeInfo} {sz n cap m : Nat} {A : Option Addr} {vx : Value} {news : Array Value} {w w1 : World}
    (h0 : tys[0]? = some sT) (h1 : tys[1]? = some xT) (hu : P.underlying sT = some (.slice e)) (hx : P.underlying xT = some d) (hd : sliceOrString d = true) (hg : P.info? e = some g) (hgs : g.size = sz)
    (hlen : (Builtin.lenOf vx).run P w = .ok m w) (hnew : (Builtin.firstCells sz m vx).run P w = .ok news w) (hroom : n + m ≤ cap)
    (hst : ∀ a, A = some a → (storeCells (a.add (n * sz)) news.toList).run P w = .ok () w1) (hst0 : A = none → w1 = w) :
    (Builtin.append_ tys ty #[.slice A n cap, vx]).run P w = .ok (.slice A (n + m) cap) w1 := by
  have hz : (match d with | .int _ => true | _ => false) = false := by cases d <;> first | rfl | simp [sliceOrString] at hd
  cases A with
  | none =>
    obtain rfl := hst0 rfl
    cases d <;> simp [sliceOrString] at hd <;> simp [Builtin.append_, h0, h1, run_underlying hu, run_underlying hx, run_sizeOf w1 hg, hgs, hlen, hnew, hroom]
  | some a =>
    have := hst a rfl
    cases d <;> simp [sliceOrString] at hd <;> simp [Builtin.append_, h0, h1, run_underlying hu, run_underlying hx, run_sizeOf w hg, hgs, hlen, hnew, hroom, this]

theorem run_append_grow' {tys : Array TypeId} {sT xT ty e : TypeId} {d : TypeDesc} {g : TypeInfo} {z : Value} {sz n cap m : Nat} {A : Option Addr} {vx : Value} {olds news : Array Value} {w : World}
    (h0 : tys[0]? = some sT) (h1 : tys[1]? = some xT) (hu : P.underlying sT = some (.slice e)) (hx : P.underlying xT = some d) (hd : sliceOrString d = true) (hg : P.info? e = some g) (hgs : g.size = sz) (hz : g.zero = some z)
    (hlen : (Builtin.lenOf vx).run P w = .ok m w) (hnew : (Builtin.firstCells sz m vx).run P w.drew = .ok news w.drew) (hold : (Builtin.firstCells sz n (.slice A n cap)).run P w.drew = .ok olds w.drew)
    (hroom : cap < n + m) (hb : (n + m) * g.bytes ≤ 140737488355328) (hb0 : 0 < g.bytes) :
    (Builtin.append_ tys ty #[.slice A n cap, vx]).run P w =
      .ok (.slice (some ⟨w.heap.size, 0, none⟩) (n + m) (grownCap w (n + m) cap e)) (w.drew.alloc (.cells (olds ++ news ++ Builtin.zeroCells z.cells (grownCap w (n + m) cap e - (n + m))) e)) := by
  have hnr : ¬ (n + m ≤ cap) := by omega
  have h48 : ¬ (281474976710656 < Builtin.nextslicecap (n + m) cap * g.bytes) := by have := growslice_fits hroom hb; omega
  have hbz : ¬ g.bytes = 0 := by omega
  have hq : (Question.appendCap (n + m) cap e).forced = false := rfl
  have hlen' : (n : Int) + (m : Int) ≤ 9223372036854775807 := by
    have : n + m ≤ (n + m) * g.bytes := Nat.le_mul_of_pos_right _ hb0
    omega
  have h63' : ¬ (9223372036854775807 < ((n : Int) + (m : Int))) := by omega
  have e1 : ({ heap := w.heap, tape := w.tape, drawn := w.drawn + 1, os := w.os, output := w.output } : World) = w.drew := rfl
  cases d <;> simp [sliceOrString] at hd <;>
    simp [Builtin.append_, h0, h1, run_underlying hu, run_underlying hx, run_sizeOf w hg, hgs, hlen, hnr, h63', h48, hbz, run_typeInfo w hg, run_choose, hq, e1, hold, hnew, run_zeroValue w.drew hg hz, run_typeInfo w.drew hg, newRow] <;>
    exact ⟨rfl, rfl⟩

theorem size_zeroCells' (z : Array Value) (n : Nat) : (Builtin.zeroCells z n).size = n * z.size := by simp [Builtin.zeroCells]

theorem arr_append_getD (a b : Array Value) (k : Nat) : (a ++ b).getD k undef = if k < a.size then a.getD k undef else b.getD (k - a.size) undef := by
  rw [← toList_getD, ← toList_getD, ← toList_getD, Array.toList_append]
  simp only [List.getD]
  by_cases h : k < a.size
  · rw [if_pos h, List.getElem?_append_left (by simpa using h)]
  · rw [if_neg h, List.getElem?_append_right (by simp; omega)]
    simp

/-- a new row for both -/
theorem append_new (hI : Inv P E) {al : Option Nat} (hal : AlOK E.h al) {e : TypeId} {sz : Nat} (hs : elSize P e = some sz) {es ys : List (List PV)} {vs vx : Value} {olds news : Array Value} (ho : News P E e sz es vs olds) (hn : News P E e sz ys vx news)
    (zs : Array Value) {cap : Nat} (hcap : es.length + ys.length ≤ cap) (hzs : zs.size = (cap - (es.length + ys.length)) * sz) :
    Res P E (allocAt al E.h (.arr e (es ++ ys) true)).2 (.all (allocAt al E.h (.arr e (es ++ ys) true)).1) (.slice (some ⟨E.w.heap.size, 0, none⟩) (es.length + ys.length) cap) (E.w.drew.alloc (.cells (olds ++ news ++ zs) e)) := by
  have hg : Grow E.w (E.w.drew.alloc (.cells (olds ++ news ++ zs) e)) := by
    refine ⟨by show _ ≤ (E.w.heap.push _).size; simp, rfl, rfl, rfl, fun k hk => ?_⟩
    show (E.w.heap.push _)[k]? = E.w.heap[k]?
    simp [Array.getElem?_push, Nat.ne_of_lt hk]
  have hsz : (olds ++ news ++ zs).size = cap * sz := by
    simp only [Array.size_append, ho.size, hn.size, hzs, ← Nat.add_mul]
    congr 1
    omega
  have h2 : (es ++ ys).length * sz = es.length * sz + ys.length * sz := by rw [List.length_append, Nat.add_mul]
  have h3 : (es.length + ys.length) * sz ≤ cap * sz := Nat.mul_le_mul_right _ hcap
  rw [Nat.add_mul] at h3
  have := add_arr hI hal e e hs (es := es ++ ys) (c := olds ++ news ++ zs) (w' := E.w.drew.alloc (.cells (olds ++ news ++ zs) e)) (blk := E.w.heap.size) hg (Nat.le_refl _)
    (show (E.w.heap.push _)[E.w.heap.size]? = _ by simp) (by omega) (fun i hi => by
      rw [getD_append]
      split
      · exact ho.ok i (by assumption)
      · rw [List.length_append] at hi; exact hn.ok _ (by omega)) (fun i j hi hj => by
      rw [List.length_append] at hi
      have hm : (i + 1) * sz ≤ (es.length + ys.length) * sz := Nat.mul_le_mul_right _ hi
      rw [Nat.add_mul, Nat.one_mul, Nat.add_mul] at hm
      have hon : (olds ++ news).size = es.length * sz + ys.length * sz := by rw [Array.size_append, ho.size, hn.size]
      by_cases hin : i < es.length
      · have h9 : (i + 1) * sz ≤ es.length * sz := Nat.mul_le_mul_right _ hin
        rw [Nat.add_mul, Nat.one_mul] at h9
        rw [getD_append, if_pos hin, arr_append_getD, if_pos (by omega), arr_append_getD, if_pos (by rw [ho.size]; omega)]
        exact ho.rep i j hin hj
      · obtain ⟨m, rfl⟩ : ∃ m, i = es.length + m := ⟨i - es.length, by omega⟩
        have h8 : (es.length + m) * sz = es.length * sz + m * sz := Nat.add_mul _ _ _
        rw [getD_append, if_neg hin, arr_append_getD, if_pos (by omega), arr_append_getD, if_neg (by rw [ho.size]; omega), ho.size, show es.length + m - es.length = m by omega, show (es.length + m) * sz + j - es.length * sz = m * sz + j by omega]
        exact hn.rep m j (by omega) hj) (cap := cap) (by rw [List.length_append]; exact hcap) (by omega)
  rw [List.length_append] at this
  exact this

theorem appendOp_run (hI : Inv P E) {tys : Array TypeId} {s x r : PV} {h' : Heap} {al : Option Nat} (h : appendOp P tys E.h s x al = some (r, h')) (hal : AlOK E.h al) {vs vx : Value} (hs : Rep P E s vs) (hx : Rep P E x vx) (ty : TypeId) :
    ∃ v w', (Builtin.append_ tys ty #[vs, vx]).run P E.w = .ok v w' ∧ Res P E h' r v w' := by
  unfold appendOp at h
  cases h0 : tys[0]? with
  | none => rw [h0] at h; simp at h
  | some sT =>
  cases h1 : tys[1]? with
  | none => rw [h0, h1] at h; simp at h
  | some xT =>
  rw [h0, h1] at h
  simp only at h
  have key : ∃ d, P.underlying xT = some d ∧ sliceOrString d = true ∧ ((elemOf P sT).bind fun e => (elSize P e).bind fun _ => (P.info? e).bind fun i => (content E.h s).bind fun c => (tail P E.h e x).bind fun ys =>
        if (c.1 = none ∨ c.1 = some e) ∧ (c.2.length + ys.length) * i.bytes ≤ 140737488355328 ∧ 0 < i.bytes then
          (drop1 E.h s).bind fun h' => let r := allocAt al h' (.arr e (c.2 ++ ys) true); some (PV.all r.1, r.2)
        else none) = some (r, h') := by
    split at h
    · rename_i hd; exact ⟨_, hd, rfl, h⟩
    · rename_i hd; exact ⟨_, hd, rfl, h⟩
    · simp at h
  obtain ⟨d, hxT, hd, h⟩ := key
  cases he : elemOf P sT with
  | none => simp [he] at h
  | some e =>
  cases hsz : elSize P e with
  | none => simp [he, hsz] at h
  | some sz =>
  obtain ⟨g, z, hg, hgs, hkl, h00, hz, hzc⟩ := elSize_zero hsz
  cases hc : content E.h s with
  | none => simp [he, hsz, hg, hc] at h
  | some c =>
  cases ht : tail P E.h e x with
  | none => simp [he, hsz, hg, hc, ht] at h
  | some ys =>
  simp only [he, hsz, hg, hc, ht, Option.bind_some] at h
  split at h
  · rename_i hcnd
    obtain ⟨hT, hby, hb0⟩ := hcnd
    have hu : P.underlying sT = some (.slice e) := by
      unfold elemOf at he
      split at he
      · rename_i hu; cases he; exact hu
      · simp at he
    -- what is appended
    have hN : ∃ news, News P E e sz ys vx news := by
      unfold tail at ht
      split at ht
      · rename_i str
        obtain rfl := hx.str_inv
        split at ht
        · rename_i hk8
          cases ht
          exact news_string hk8 hsz str
        · simp at ht
      · cases hc2 : content E.h x with
        | none => simp [hc2] at ht
        | some c2 =>
          simp only [hc2, Option.bind_some] at ht
          split at ht
          · rename_i hT2
            cases ht
            exact news_slice hsz (content_rep hI (T := c2.1) (es := c2.2) hc2 hx) hT2
          · simp at ht
    obtain ⟨news, hN⟩ := hN
    -- what it is appended to
    have hS := content_rep hI (T := c.1) (es := c.2) hc hs
    obtain ⟨olds, hO⟩ := news_slice hsz hS hT
    obtain ⟨A, cap, rfl, hcap, hnil, hq⟩ := hS
    cases hd1 : drop1 E.h s with
    | none => simp [hd1] at h
    | some h0' =>
    simp only [hd1, Option.bind_some, Option.some.injEq, Prod.mk.injEq] at h
    obtain ⟨rfl, rfl⟩ := h
    have hdrop : (s = .nils ∧ h0' = E.h) ∨ ∃ b t es0, ((s = .all b) ∨ ∃ off n, s = .own b off n) ∧ E.h[b]? = some (.arr t es0 true) ∧ h0' = E.h.set b .dead := by
      unfold drop1 at hd1
      split at hd1
      · cases hd1; exact .inl ⟨rfl, rfl⟩
      · split at hd1
        · rename_i hb; cases hd1; exact .inr ⟨_, _, _, .inl rfl, hb, rfl⟩
        · simp at hd1
      · split at hd1
        · rename_i hb; cases hd1; exact .inr ⟨_, _, _, .inr ⟨_, _, rfl⟩, hb, rfl⟩
        · simp at hd1
      · simp at hd1
    -- the state behind the old row's end
    have hkill : ∃ E1, E1.w = E.w ∧ E1.h = h0' ∧ Trans E E1 ∧ Inv P E1 ∧ AlOK E1.h al := by
      rcases hdrop with ⟨rfl, rfl⟩ | ⟨b, t, es0, _, hb, rfl⟩
      · exact ⟨E, rfl, rfl, Trans.refl E, hI, hal⟩
      · obtain ⟨E1, e1, e2, e3, e4⟩ := kill_env hI hb
        exact ⟨E1, e1, e2, e3, e4, by rw [e2]; exact kill_al hal hb (by simp)⟩
    obtain ⟨E1, e1, e2, e3, e4, e5⟩ := hkill
    by_cases hroom : c.2.length + ys.length ≤ cap
    · by_cases hcap0 : cap = 0
      · -- nothing there, nothing comes
        have hl0 : c.2 = [] := List.eq_nil_of_length_eq_zero (by omega)
        have hy0 : ys = [] := List.eq_nil_of_length_eq_zero (by omega)
        have hnews : news = #[] := by
          have := hN.size
          rw [hy0] at this
          simp at this
          exact this
        refine ⟨_, _, run_append_room' (P := P) (w1 := E.w) h0 h1 hu hxT hd hg hgs (hN.len _) (hN.cells _ rfl) hroom (fun a _ => by rw [hnews]; simp [storeCells]) (fun _ => rfl), ?_⟩
        have := add_none e4 e5 e hsz A
        rw [e1, e2] at this
        rw [hl0, hy0, hcap0]
        exact this.trans e3
      · rcases hdrop with ⟨rfl, _⟩ | ⟨b, t, es0, hsb, hb, rfl⟩
        · exfalso
          simp [content] at hc
          subst hc
          obtain ⟨_, _, h3⟩ := hnil rfl
          exact hcap0 h3
        · -- in the row's own place
          have hown : ∃ off n, SlcAt P E b off n (.slice A c.2.length cap) ∧ n = c.2.length ∧ off + n ≤ es0.length ∧ c = (some t, (es0.drop off).take n) := by
            rcases hsb with rfl | ⟨off, n, rfl⟩
            · simp only [content, hb, Option.some.injEq] at hc
              subst hc
              cases hs with
              | all _ n _ hn hh =>
                obtain rfl := hn _ _ _ hb
                exact ⟨0, es0.length, hh, rfl, by omega, by simp⟩
            · simp only [content, hb] at hc
              split at hc
              · rename_i hle
                cases hc
                cases hs with
                | own _ _ _ _ hh =>
                  have hlen : ((es0.drop off).take n).length = n := by simp; omega
                  exact ⟨off, n, hh, hlen.symm, hle, rfl⟩
              · simp at hc
          obtain ⟨off, n, hh, hn, hle, hce⟩ := hown
          have hte : t = e := by
            rw [hce] at hT
            rcases hT with hT | hT <;> simp at hT
            exact hT
          subst hte
          unfold SlcAt at hh
          rw [hb] at hh
          obtain ⟨_, sz', A', cap', hsz', hv, hncap, hpos⟩ := hh
          rw [hsz] at hsz'
          obtain rfl := Option.some.inj hsz'
          obtain ⟨rfl, _, rfl⟩ : A = A' ∧ c.2.length = n ∧ cap = cap' := by simpa using hv
          rcases hpos with hpos | ⟨blk, o, cc, T, hρ, rfl, hw, hfit⟩
          · exact absurd hpos hcap0
          · have hst := run_storeCells_at P blk (o + off * sz + n * sz) T news.toList 0 cc E.w hw (by
              have q1 : (off + cap) * sz = off * sz + cap * sz := Nat.add_mul _ _ _
              have q2 : (n + ys.length) * sz ≤ cap * sz := Nat.mul_le_mul_right _ (by omega)
              rw [Nat.add_mul] at q2
              simp [hN.size]; omega) (hN.one hsz)
            refine ⟨_, _, run_append_room' (P := P) (w1 := E.w.setRow blk (wr cc (o + off * sz + n * sz) news.toList)) h0 h1 hu hxT hd hg hgs (hN.len _) (hN.cells _ rfl) hroom (fun a ha => by cases ha; rw [Addr.add_lit, ← hn]; exact hst) (fun hA => by cases hA), ?_⟩
            have := append_room hI hal hsz hb hle hN hρ hw hfit (by omega)
            rw [hce]
            have hlen : ((es0.drop off).take n).length = n := by simp; omega
            simp only [hlen]
            exact this
    · -- a new row
      have hlt : cap < c.2.length + ys.length := by omega
      refine ⟨_, _, run_append_grow' (P := P) h0 h1 hu hxT hd hg hgs hz (hN.len _) (hN.cells _ rfl) (hO.cells _ rfl) hlt hby hb0, ?_⟩
      have hN1 : News P E1 e sz ys vx news := ⟨hN.len, fun w hw => hN.cells w (by rw [hw, e1]), hN.size, hN.ok, fun i j hi hj => (hN.rep i j hi hj).mono hI e3⟩
      have hO1 : News P E1 e sz c.2 (.slice A c.2.length cap) olds := ⟨hO.len, fun w hw => hO.cells w (by rw [hw, e1]), hO.size, hO.ok, fun i j hi hj => (hO.rep i j hi hj).mono hI e3⟩
      have hge := grownCap_ge E.w (c.2.length + ys.length) cap e
      have := append_new e4 e5 hsz hO1 hN1 (Builtin.zeroCells z.cells (grownCap E.w (c.2.length + ys.length) cap e - (c.2.length + ys.length))) hge (by rw [size_zeroCells', hzc])
      rw [e1, e2] at this
      exact this.trans e3
  · simp at h

theorem purCell_nil {k : Kd} {x y : PV} {h1 : Heap} (h : purCell [] k x = some (y, h1)) {v : Value} (hx : Rep P E x v) : Rep P E y v ∧ cellOK k y = true := by
  unfold purCell at h
  split at h
  · cases h
    obtain rfl := hx.nils_inv
    exact ⟨.lst0 _ _ _, by simp [cellOK]⟩
  · simp at h
  · simp at h
  · split at h
    · rename_i hk
      cases h
      exact ⟨hx, hk⟩
    · simp at h

theorem purCell_nil_h {k : Kd} {x y : PV} {h1 : Heap} (h : purCell [] k x = some (y, h1)) : h1 = [] := by
  unfold purCell at h
  split at h
  · cases h; rfl
  · simp at h
  · simp at h
  · split at h
    · cases h; rfl
    · simp at h

theorem purCells_nil : ∀ {ks : List Kd} {xs ys : List PV} {h1 : Heap} {vs : List Value}, purCells [] ks xs = some (ys, h1) → xs.length = vs.length → (∀ j, j < xs.length → Rep P E (xs.getD j .top) (vs.getD j undef)) →
    ys.length = xs.length ∧ cellsOK ks ys = true ∧ ∀ j, j < ys.length → Rep P E (ys.getD j .top) (vs.getD j undef)
  | [], [], ys, h1, vs, h, _, _ => by
    simp only [purCells, Option.some.injEq, Prod.mk.injEq] at h
    obtain ⟨rfl, _⟩ := h
    exact ⟨rfl, rfl, fun j hj => by simp at hj⟩
  | [], _ :: _, _, _, _, h, _, _ => by simp [purCells] at h
  | _ :: _, [], _, _, _, h, _, _ => by simp [purCells] at h
  | _ :: _, _ :: _, _, _, [], _, hl, _ => by simp at hl
  | k :: ks, x :: xs, ys, h1, v :: vs, h, hl, hr => by
    simp only [purCells] at h
    cases hc : purCell [] k x with
    | none => simp [hc] at h
    | some r =>
      obtain ⟨y, h2⟩ := r
      simp only [hc, Option.bind_some] at h
      obtain rfl := purCell_nil_h hc
      cases hs : purCells [] ks xs with
      | none => simp [hs] at h
      | some s =>
        obtain ⟨zs, h3⟩ := s
        simp only [hs, Option.bind_some, Option.some.injEq, Prod.mk.injEq] at h
        obtain ⟨rfl, _⟩ := h
        obtain ⟨e1, e2⟩ := purCell_nil (P := P) (E := E) hc (by simpa using hr 0 (by simp))
        obtain ⟨i1, i2, i3⟩ := purCells_nil (vs := vs) hs (by simpa using hl) (fun j hj => by simpa using hr (j + 1) (by simp; exact hj))
        refine ⟨by simp [i1], by simp [cellsOK, e2, i2], fun j hj => ?_⟩
        cases j with
        | zero => simpa using e1
        | succ j => simpa using i3 j (by simpa using hj)

theorem zeroEl_ok {e : TypeId} {z : List PV} (h : zeroEl P e = some z) {g : TypeInfo} (hg : P.info? e = some g) {zv : Value} (hz : g.zero = some zv) :
    cellsOK (kds P e) z = true ∧ ∀ j, j < z.length → Rep P E (z.getD j .top) (zv.cells.getD j undef) := by
  unfold zeroEl zeroPV at h
  simp only [hg, hz, Option.bind_some, Option.map_some] at h
  cases hp : purCells [] (kds P e) (ofConst zv).cells with
  | none => simp [hp] at h
  | some r =>
    obtain ⟨ys, h1⟩ := r
    simp only [hp, Option.map_some, Option.some.injEq] at h
    subst h
    obtain ⟨l, hr⟩ := ofConst_cells (P := P) (E := E) zv
    obtain ⟨i1, i2, i3⟩ := purCells_nil (P := P) (E := E) (vs := zv.cells.toList) hp (by simpa using l) (fun j hj => by rw [toList_getD]; exact hr j hj)
    exact ⟨i2, fun j hj => by rw [← toList_getD]; exact i3 j hj⟩

theorem makeSlice_run (hI : Inv P E) {t : TypeId} {len cap r : PV} {al : Option Nat} {h' : Heap} (h : makeSliceOp P t len cap al E.h = some (r, h')) (hal : AlOK E.h al) {vl vc : Value} (hl : Rep P E len vl) (hc : Rep P E cap vc) :
    ∃ v w', (Instr.makeSlice t vl vc).run P E.w = .ok v w' ∧ Res P E h' r v w' := by
  unfold makeSliceOp at h
  split at h
  · rename_i e n c hu
    obtain rfl := hl.int_inv
    obtain rfl := hc.int_inv
    cases hsz : elSize P e with
    | none => simp [hsz] at h
    | some sz =>
    obtain ⟨g, zv, hg, hgs, hkl, h00, hz, hzc⟩ := elSize_zero hsz
    cases hze : zeroEl P e with
    | none => simp [hsz, hg, hze] at h
    | some z =>
    simp only [hsz, hg, hze, Option.bind_some] at h
    split at h
    · rename_i hcnd
      obtain ⟨c1, c2, c3, c4⟩ := hcnd
      simp only [Option.some.injEq, Prod.mk.injEq] at h
      obtain ⟨rfl, rfl⟩ := h
      obtain ⟨zk, zr⟩ := zeroEl_ok (P := P) (E := E) hze hg hz
      have hzl : z.length = sz := by rw [(cellsOK_getD zk).1, hkl]
      have w1 : IntKind.i64.wrap n = n := by unfold IntKind.wrap; simp [IntKind.signed, IntKind.bits]; omega
      have w2 : IntKind.i64.wrap c = c := by unfold IntKind.wrap; simp [IntKind.signed, IntKind.bits]; omega
      let cells : Array Value := (Array.range (c.toNat * sz)).map fun i => (if c.toNat * sz = 0 then (#[] : Array Value) else zv.cells)[i % (if c.toNat * sz = 0 then (#[] : Array Value) else zv.cells).size]!
      have hrun : (Instr.makeSlice t (.int .i64 n) (.int .i64 c)).run P E.w = .ok (.slice (some ⟨E.w.heap.size, 0, none⟩) n.toNat c.toNat) { E.w with heap := E.w.heap.push (.cells cells e) } := by
        have t1 : ¬ (c < 0) := by omega
        have t2 : ¬ (n < 0) := by omega
        have t3 : ¬ (n > c) := by omega
        have t4 : ¬ ((g.bytes : Int) * c > 2 ^ 48) := by omega
        by_cases h0 : c.toNat * sz = 0
        · simp only [cells, h0, if_true]
          simp [Instr.makeSlice, run_underlying hu, asInt, asIntOf, run_typeInfo E.w hg, w1, w2, t1, t2, t3, t4, run_askRoom, run_sizeOf E.w hg, hgs, h0, newRow]
          exact fun hb => absurd hb (by omega)
        · simp only [cells, h0, if_false]
          simp [Instr.makeSlice, run_underlying hu, asInt, asIntOf, run_typeInfo E.w hg, w1, w2, t1, t2, t3, t4, run_askRoom, run_sizeOf E.w hg, hgs, h0, newRow, run_zeroValue E.w hg hz]
          exact fun hb => absurd hb (by omega)
      refine ⟨_, _, hrun, ?_⟩
      have hcs : cells.size = c.toNat * sz := by simp [cells]
      have hget : ∀ k, k < c.toNat * sz → cells.getD k undef = zv.cells.getD (k % sz) undef := by
        intro k hk
        have h0 : ¬ (c.toNat * sz = 0) := by omega
        have hm : k % sz < zv.cells.size := by rw [hzc]; exact Nat.mod_lt _ h00
        have hkc : k < cells.size := by rw [hcs]; exact hk
        have e1 : cells.getD k undef = cells[k] := by rw [Array.getD, dif_pos hkc]; rfl
        have e2 : zv.cells.getD (k % sz) undef = zv.cells[k % sz] := by rw [Array.getD, dif_pos hm]; rfl
        rw [e1, e2]
        simp only [cells, Array.getElem_map, Array.getElem_range, h0, if_false, hzc]
        exact getElem!_pos zv.cells (k % sz) hm
      have hA := add_arr hI hal e e hsz (es := List.replicate n.toNat z) (c := cells) (w' := { E.w with heap := E.w.heap.push (.cells cells e) }) (blk := E.w.heap.size) (Grow.alloc _ _) (Nat.le_refl _) (by simp)
        (by rw [hcs, List.length_replicate]; exact Nat.mul_le_mul_right _ (by omega)) (fun i hi => by rw [List.length_replicate] at hi; simp only [List.getD, List.getElem?_replicate, hi, if_true]; exact zk)
        (fun i j hi hj => by
          rw [List.length_replicate] at hi
          have hm : (i + 1) * sz ≤ c.toNat * sz := Nat.mul_le_mul_right _ (by omega)
          rw [Nat.add_mul, Nat.one_mul] at hm
          rw [hget _ (by omega), Nat.mul_comm i sz, Nat.mul_add_mod, Nat.mod_eq_of_lt hj]
          simp only [List.getD, List.getElem?_replicate, hi, if_true]
          exact zr j (by omega)) (cap := c.toNat) (by rw [List.length_replicate]; omega) (by rw [hcs]; exact Nat.le_refl _)
      rw [List.length_replicate] at hA
      by_cases hnc : n = c
      · rw [if_pos hnc]
        exact hA
      · rw [if_neg hnc]
        obtain ⟨E', e1, e2, e3, e4, e5⟩ := hA
        refine ⟨E', e1, e2, e3, e4, .own _ _ _ _ ?_⟩
        cases e5 with
        | all _ m _ hn hh =>
          have hm := hn e (List.replicate n.toNat z) true (by rw [e2]; exact (alloc_spec hal _).1)
          rw [List.length_replicate] at hm
          subst hm
          exact hh
    · simp at h
  · simp at h

end
end Go.Pu
end
