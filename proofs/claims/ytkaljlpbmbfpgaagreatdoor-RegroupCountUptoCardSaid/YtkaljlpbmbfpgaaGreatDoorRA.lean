/- The pure machine: a deterministic reading of the model's code on pure data. -/
import Derived.Calls
import Derived.Orders
import Derived.Below
namespace Go.Pu

inductive PV where
 | top
 | bool (b : Bool)
 | int (k : IntKind) (n : Int)
 | str (s : ByteArray)
 | agg (cs : List PV)
 | tuple (vs : List PV)
 | nils
 | lst (t : TypeId) (es : List (List PV))
 | all (b : Nat)
 | own (b off n : Nat)
 | new (t : TypeId) (es : List (List PV))
 | nilp
 | ptr (b off : Nat)
 | aptr (b i off : Nat)
 | eptr (t : TypeId) (cs : List PV) (off : Nat)
 | newb (t : TypeId) (cs : List PV)
 | fn (f : FuncId) (caps : List PV)
 | nilfn
 | iface (t : TypeId) (v : PV)
 | nili
 | mp (b : Nat)

/-- a map's state: one writes it; the slice of a key was taken out; it is written no more -/
inductive MS where
 | live
 | out (k : ByteArray)
 | fz

inductive Blk where
 | dead
 | res
 | arr (t : TypeId) (es : List (List PV)) (live : Bool)
 | box (t : TypeId) (cs : List PV)
 | map (t : TypeId) (es : List (List PV)) (st : MS)

abbrev Heap := List Blk

inductive Kd where
 | int (k : IntKind) | bool | str | sl (t : TypeId) | other
 deriving DecidableEq

def kdOf (P : Program) (t : TypeId) : Kd :=
 match P.underlying t with
 | some (.int k) => .int k
 | some .bool => .bool
 | some .string => .str
 | some (.slice e) => .sl e
 | _ => .other

def kdsOf (P : Program) : Nat → TypeId → List Kd
 | 0, _ => []
 | n + 1, t =>
  match P.underlying t with
  | some (.struct fs) => fs.toList.flatMap fun f => kdsOf P n f.type
  | some (.array len e) => (List.replicate len (kdsOf P n e)).flatten
  | _ => [kdOf P t]

def kds (P : Program) (t : TypeId) : List Kd := kdsOf P 6 t

def elSize (P : Program) (e : TypeId) : Option Nat :=
 (P.info? e).bind fun i => if i.size = (kds P e).length ∧ 0 < i.size ∧ i.zero.map (·.cells.size) = some i.size then some i.size else none

def PV.toI : PV → Int | .int _ n => n | _ => 0
def PV.toB : PV → Bool | .bool b => b | _ => false
def PV.toS : PV → ByteArray | .str s => s | _ => ⟨#[]⟩
def PV.toL : PV → List (List PV) | .lst _ es => es | _ => []

def proj : Kd → PV → PV
 | .int k, v => .int k v.toI
 | .bool, v => .bool v.toB
 | .str, v => .str v.toS
 | .sl t, v => .lst t v.toL
 | .other, v => v

def cellOK : Kd → PV → Bool
 | .int k, .int k' _ => decide (k = k')
 | .bool, .bool _ => true
 | .str, .str _ => true
 | .sl t, .lst t' _ => decide (t = t')
 | _, _ => false

def cellsOK : List Kd → List PV → Bool
 | [], [] => true
 | k :: ks, c :: cs => cellOK k c && cellsOK ks cs
 | _, _ => false

def PV.cells : PV → List PV
 | .agg cs => cs
 | v => [v]

/-- an address into memory that is there -/
def aliveP (h : Heap) : PV → Bool
 | .ptr b _ => match h[b]? with | some (.box _ _) => true | _ => false
 | .aptr b _ _ => match h[b]? with | some (.arr _ _ _) => true | _ => false
 | .eptr _ _ _ => true
 | _ => false

/-- a value of which it is known how many cells it has -/
def okv (h : Heap) : PV → Bool
 | .top | .tuple _ | .new _ _ | .newb _ _ => false
 | .all b | .own b _ _ => match h[b]? with | some (.arr _ _ _) => true | _ => false
 | .ptr b o => aliveP h (.ptr b o)
 | .aptr b i o => aliveP h (.aptr b i o)
 | .mp b => match h[b]? with | some (.map _ _ _) => true | _ => false
 | _ => true

/-- the content of what can be read as a slice: its elements' type, its elements -/
def content (h : Heap) : PV → Option (Option TypeId × List (List PV))
 | .nils => some (none, [])
 | .lst t es => some (some t, es)
 | .all b => match h[b]? with | some (.arr t es _) => some (some t, es) | _ => none
 | .own b off n => match h[b]? with | some (.arr t es _) => if off + n ≤ es.length then some (some t, (es.drop off).take n) else none | _ => none
 | .new t _ => some (some t, [])
 | _ => none

def freeze (h : Heap) (b : Nat) : Heap :=
 match h[b]? with
 | some (.arr t es _) => h.set b (.arr t es false)
 | _ => h

/-- a value as it is put into an array's cell: a slice of one's own becomes plain data, and its row is written no more -/
def purCell (h : Heap) (k : Kd) (x : PV) : Option (PV × Heap) :=
 match k, x with
 | .sl t, .nils => some (.lst t [], h)
 | .sl t, .all b => match h[b]? with | some (.arr t' es _) => if t = t' then some (.lst t es, freeze h b) else none | _ => none
 | .sl t, .own b off n => match h[b]? with
  | some (.arr t' es _) => if t = t' ∧ off + n ≤ es.length then some (.lst t ((es.drop off).take n), freeze h b) else none
  | _ => none
 | k, x => if cellOK k x then some (x, h) else none

def purCells (h : Heap) : List Kd → List PV → Option (List PV × Heap)
 | [], [] => some ([], h)
 | k :: ks, c :: cs => (purCell h k c).bind fun r => (purCells r.2 ks cs).bind fun s => some (r.1 :: s.1, s.2)
 | _, _ => none

def ofConst1 : Value → PV
 | .bool b => .bool b
 | .int k n => .int k n
 | .string s => .str s
 | .slice none 0 0 => .nils
 | .pointer none => .nilp
 | .nilFunc => .nilfn
 | .nilIface => .nili
 | _ => .top

def ofConst : Value → PV
 | .agg cs => .agg (cs.toList.map ofConst1)
 | v => ofConst1 v

def ev (ts : List PV) : Operand → PV
 | .tmp t => ts.getD t .top
 | .const v => ofConst v
 | .global _ => .top
 | .func f => .fn f []

/-- where an operation puts a block that it makes: behind all, or at a place that was kept for it -/
def allocAt (al : Option Nat) (h : Heap) (b : Blk) : Nat × Heap :=
 match al with
 | none => (h.length, h ++ [b])
 | some s => (s, h.set s b)

def scalarKd : Kd → Bool
 | .int _ | .bool | .str => true
 | _ => false

/-- a variable's value out of its cells -/
def loadBox (P : Program) (t : TypeId) (cs : List PV) (off : Nat) : Option PV :=
 match P.underlying t, P.info? t with
 | some (.struct _), some i | some (.array _ _), some i => if off + i.size ≤ cs.length then some (.agg ((cs.drop off).take i.size)) else none
 | some _, some _ => if off < cs.length then some (cs.getD off .top) else none
 | _, _ => none

def part (P : Program) (t : TypeId) (cs : List PV) (off : Nat) : Option PV := loadBox P t cs off

def eqFs (P : Program) (rec : TypeId → PV → PV → Option Bool) (xs ys : List PV) : List Field → Option Bool
 | [] => some true
 | f :: fs =>
  if f.name = "_" then eqFs P rec xs ys fs else
  (part P f.type xs f.offset).bind fun a => (part P f.type ys f.offset).bind fun b => (rec f.type a b).bind fun r =>
   (eqFs P rec xs ys fs).bind fun s => some (r && s)

def eqAt (P : Program) : Nat → TypeId → PV → PV → Option Bool
 | 0, _, _, _ => none
 | n + 1, t, x, y =>
  match P.underlying t, x, y with
  | some .bool, .bool a, .bool b => some (a == b)
  | some (.int _), .int k a, .int k' b => if k = k' then some (a == b) else none
  | some .string, .str a, .str b => some (a.toList == b.toList)
  | some (.struct fs), .agg xs, .agg ys => if P.stoodInHeld t then none else eqFs P (eqAt P n) xs ys fs.toList
  | _, _, _ => none

def strOp (op : BinOp) (x y : ByteArray) : Option PV :=
 let eq := x.toList == y.toList
 let lt := Op.bytesLess x.toList y.toList
 match op with
 | .add => if x.size + y.size ≤ 9223372036854775807 then some (.str (x ++ y)) else none
 | .eql => some (.bool eq)
 | .neq => some (.bool (!eq))
 | .lss => some (.bool lt)
 | .leq => some (.bool (lt || eq))
 | .gtr => some (.bool (!(lt || eq)))
 | .geq => some (.bool (!lt))
 | _ => none

def bitsOp (op : BinOp) (k : IntKind) (x y : Int) : Option PV :=
 let a := BitVec.ofInt k.bits x
 let b := BitVec.ofInt k.bits y
 match op with
 | .and => some (.int k (k.wrap (a &&& b).toNat))
 | .or => some (.int k (k.wrap (a ||| b).toNat))
 | .xor => some (.int k (k.wrap (a ^^^ b).toNat))
 | .andNot => some (.int k (k.wrap (a &&& ~~~b).toNat))
 | _ => none

def intOp (op : BinOp) (k : IntKind) (a b : Int) : Option PV :=
 match op with
 | .add => some (.int k (k.wrap (a + b)))
 | .sub => some (.int k (k.wrap (a - b)))
 | .mul => some (.int k (k.wrap (a * b)))
 | .quo => if b = 0 then none else some (.int k (k.wrap (a.tdiv b)))
 | .rem => if b = 0 then none else some (.int k (a.tmod b))
 | .eql => some (.bool (a == b))
 | .neq => some (.bool (a != b))
 | .lss => some (.bool (decide (a < b)))
 | .leq => some (.bool (decide (a ≤ b)))
 | .gtr => some (.bool (decide (a > b)))
 | .geq => some (.bool (decide (a ≥ b)))
 | op => bitsOp op k a b

def shiftOp (op : BinOp) (k : IntKind) (a b : Int) : Option PV :=
 if b < 0 then none else
 match op with
 | .shl => some (.int k (k.wrap (a * 2 ^ (min b.toNat k.bits))))
 | .shr => some (.int k (a.fdiv (2 ^ (min b.toNat k.bits))))
 | _ => none

def eqOp (P : Program) (t : TypeId) (x y : PV) : Option Bool :=
 match x, y with
 | .bool _, .bool _ => eqAt P 1 t x y
 | .nils, .nils => match P.underlying t with | some (.slice _) => some true | _ => none
 | .new _ (_ :: _), .nils => match P.underlying t with | some (.slice _) => some false | _ => none
 | .lst _ (_ :: _), .nils => match P.underlying t with | some (.slice _) => some false | _ => none
 | .agg _, .agg _ => if P.eqGuardType P.depth t then none else eqAt P 6 t x y
 | _, _ => none

def binOp (P : Program) (op : BinOp) (t : TypeId) (x y : PV) : Option PV :=
 match x, y with
 | .int k a, .int k' b =>
  match op with
  | .shl | .shr => shiftOp op k a b
  | op => if k = k' then intOp op k a b else none
 | .str a, .str b => strOp op a b
 | x, y =>
  match op with
  | .eql => (eqOp P t x y).map .bool
  | .neq => (eqOp P t x y).map fun b => .bool (!b)
  | _ => none

def unOp (op : UnOp) (x : PV) : Option PV :=
 match op, x with
 | .neg, .int k n => some (.int k (k.wrap (0 - n)))
 | .xor, .int k n => bitsOp .xor k (if k.signed then -1 else k.max) n
 | .not, .bool b => some (.bool (!b))
 | _, _ => none

/-- a string's bytes as elements -/
def bytesOf (s : ByteArray) : List (List PV) := s.data.toList.map fun b => [.int .u8 b.toNat]

def strOf (es : List (List PV)) : ByteArray := ⟨(es.map fun e => UInt8.ofNat ((e.getD 0 .top).toI).toNat).toArray⟩

def convertOp (P : Program) (src dst : TypeId) (h : Heap) (x : PV) : Option PV :=
 match x with
 | .int _ n => match kdOf P src, kdOf P dst with | .int _, .int k => some (.int k (k.wrap n)) | _, _ => none
 | .str s => match kdOf P src, kdOf P dst with | .str, .str => some (.str s) | _, _ => none
 | x => match kdOf P src, kdOf P dst with
  | .sl e, .str => if kdOf P e = .int .u8 ∧ elSize P e = some 1 then
    (content h x).bind fun c => if c.1 = none ∨ c.1 = some e then some (.str (strOf c.2)) else none
   else none
  | _, _ => none

def projs : List Kd → List PV → Nat → List PV
 | [], _, _ => []
 | k :: ks, cs, off => proj k (cs.getD off .top) :: projs ks cs (off + 1)

def loadEl (P : Program) (t T : TypeId) (cs : List PV) (off : Nat) : Option PV :=
 match P.underlying t, P.info? t with
 | some (.struct _), some i | some (.array _ _), some i =>
  if kds P t = ((kds P T).drop off).take i.size ∧ (kds P t).length = i.size ∧ off + i.size ≤ (kds P T).length then some (.agg (projs (kds P t) cs off)) else none
 | some _, some _ => if (kds P T)[off]? = some (kdOf P t) then some (proj (kdOf P t) (cs.getD off .top)) else none
 | _, _ => none

def loadOp (P : Program) (t : TypeId) (h : Heap) (a : PV) : Option PV :=
 match a with
 | .ptr b off => match h[b]? with | some (.box _ cs) => loadBox P t cs off | _ => none
 | .aptr b i off => match h[b]? with | some (.arr T es _) => if i < es.length then loadEl P t T (es.getD i []) off else none | _ => none
 | .eptr T cs off => loadEl P t T cs off
 | _ => none

def setCells : List PV → Nat → List PV → List PV
 | cs, _, [] => cs
 | cs, off, x :: xs => setCells (cs.set off x) (off + 1) xs

def cell1 : PV → Bool
 | .top | .agg _ | .tuple _ | .new _ _ | .newb _ _ => false
 | _ => true

def storeOp (P : Program) (t : TypeId) (h : Heap) (a x : PV) : Option Heap :=
 match P.info? t with
 | none => none
 | some i =>
  if x.cells.length ≠ i.size ∨ x.cells.all cell1 = false ∨ okv h x = false ∨ x.cells.all (okv h) = false then none else
  match a with
  | .ptr b off => match h[b]? with
   | some (.box T cs) => if off + i.size ≤ cs.length then some (h.set b (.box T (setCells cs off x.cells))) else none
   | _ => none
  | .aptr b j off => match h[b]? with
   | some (.arr T es true) =>
    if j < es.length ∧ off + i.size ≤ (kds P T).length then
     (purCells h (((kds P T).drop off).take i.size) x.cells).bind fun r =>
      match r.2[b]? with
      | some (.arr _ es2 true) => some (r.2.set b (.arr T (es2.set j (setCells (es2.getD j []) off r.1)) true))
      | _ => none
    else none
   | _ => none
  | _ => none

def zeroPV (P : Program) (t : TypeId) : Option PV :=
 (P.info? t).bind fun i => i.zero.map ofConst

def fillPV (place : Nat → Option (Nat × Nat)) (cells : List PV) : List (Nat × PV) → Option (List PV)
 | [] => some cells
 | (i, v) :: rest =>
  match place i with
  | none => none
  | some (off, size) => if v.cells.length = size ∧ off + size ≤ cells.length then fillPV place (setCells cells off v.cells) rest else none

def buildOp (P : Program) (t : TypeId) (h : Heap) (parts : List (Nat × PV)) : Option PV :=
 if parts.all (fun p => okv h p.2) = false then none else
 match P.underlying t, P.info? t with
 | some (.struct fs), some i =>
  if fs.toList.all (fun f => (P.info? f.type).isSome) = false then none else
  (i.zero.map ofConst).bind fun z => (fillPV (fun j => (fs[j]?).map fun f => (f.offset, ((P.info? f.type).map (·.size)).getD 0)) z.cells parts).map .agg
 | some (.array _ e), some i =>
  (P.info? e).bind fun g => (i.zero.map ofConst).bind fun z => (fillPV (fun j => some (j * g.size, g.size)) z.cells parts).map .agg
 | _, _ => none

/-- a literal's elements: each place is given, in order -/
def litEls (P : Program) (e : TypeId) (h : Heap) : Nat → List (Nat × PV) → Option (List (List PV) × Heap)
 | _, [] => some ([], h)
 | j, (i, v) :: rest =>
  if i = j ∧ okv h v = true then
   (purCells h (kds P e) v.cells).bind fun r => (litEls P e r.2 (j + 1) rest).bind fun s => some (r.1 :: s.1, s.2)
  else none

def buildSliceOp (P : Program) (t : TypeId) (len : Nat) (parts : List (Nat × PV)) (al : Option Nat) (h : Heap) : Option (PV × Heap) :=
 match P.underlying t with
 | some (.slice e) =>
  (elSize P e).bind fun sz =>
   if parts.length = len ∧ len * sz ≤ 16777216 then
    (litEls P e h 0 parts).bind fun r => let z := allocAt al r.2 (.arr e r.1 true); some (.all z.1, z.2)
   else none
 | _ => none

/-- zero cells of an element -/
def zeroEl (P : Program) (e : TypeId) : Option (List PV) :=
 (zeroPV P e).bind fun z => (purCells [] (kds P e) z.cells).map (·.1)

def makeSliceOp (P : Program) (t : TypeId) (len cap : PV) (al : Option Nat) (h : Heap) : Option (PV × Heap) :=
 match P.underlying t, len, cap with
 | some (.slice e), .int .i64 n, .int .i64 c =>
  (elSize P e).bind fun _ => (P.info? e).bind fun i => (zeroEl P e).bind fun z =>
   if 0 ≤ n ∧ n ≤ c ∧ i.bytes * c ≤ 140737488355328 ∧ c ≤ 140737488355328 then
    let r := allocAt al h (.arr e (List.replicate n.toNat z) true)
    some (if n = c then .all r.1 else .own r.1 0 n.toNat, r.2)
   else none
 | _, _, _ => none

def bound (x : Option PV) (d : Nat) : Option Int :=
 match x with
 | none => some d
 | some (.int _ n) => some n
 | _ => none

def sliceStr (s : ByteArray) (lo hi : Option PV) : Option PV :=
 (bound lo 0).bind fun l => (bound hi s.size).bind fun u =>
  if 0 ≤ l ∧ l ≤ u ∧ u ≤ s.size then some (.str (s.extract l.toNat u.toNat)) else none

/-- a cut of a slice: within its length -/
def sliceRow (P : Program) (e : TypeId) (h : Heap) (lo hi : Option PV) (x : PV) : Option PV :=
 if elSize P e = none then none else
 match x with
 | .nils => (bound lo 0).bind fun l => (bound hi 0).bind fun u => if l = 0 ∧ u = 0 then some .nils else none
 | .lst T es =>
  (bound lo 0).bind fun l => (bound hi es.length).bind fun u =>
   if T = e ∧ 0 ≤ l ∧ l ≤ u ∧ u ≤ es.length then some (.lst T ((es.drop l.toNat).take (u.toNat - l.toNat))) else none
 | .all b =>
  match h[b]? with
  | some (.arr T es _) =>
   (bound lo 0).bind fun l => (bound hi es.length).bind fun u =>
    if T = e ∧ 0 ≤ l ∧ l ≤ u ∧ u ≤ es.length then some (.own b l.toNat (u.toNat - l.toNat)) else none
  | _ => none
 | .own b off n =>
  match h[b]? with
  | some (.arr T _ _) =>
   (bound lo 0).bind fun l => (bound hi n).bind fun u =>
    if T = e ∧ 0 ≤ l ∧ l ≤ u ∧ u ≤ n then some (.own b (off + l.toNat) (u.toNat - l.toNat)) else none
  | _ => none
 | _ => none

/-- the cut of nothing, without room behind it -/
def sliceZero (P : Program) (t : TypeId) (h : Heap) (x : PV) (lo hi mx : Option PV) : Option PV :=
 match P.underlying t, lo, hi, mx with
 | some (.slice e), none, some (.int _ 0), some (.int _ 0) =>
  if elSize P e = none then none else (content h x).bind fun c => if c.1 = none ∨ c.1 = some e then some (.new e []) else none
 | _, _, _, _ => none

def sliceOp (P : Program) (t : TypeId) (h : Heap) (x : PV) (lo hi mx : Option PV) : Option PV :=
 if mx.isSome then sliceZero P t h x lo hi mx else
 match P.underlying t with
 | some .string => match x with | .str s => sliceStr s lo hi | _ => none
 | some (.slice e) => sliceRow P e h lo hi x
 | _ => none

def moved (a : PV) (n : Nat) : PV :=
 match a with
 | .ptr b off => .ptr b (off + n)
 | .aptr b j off => .aptr b j (off + n)
 | .eptr T cs off => .eptr T cs (off + n)
 | a => a

def fieldAddrOp (P : Program) (t : TypeId) (h : Heap) (a : PV) (f : Nat) : Option PV :=
 match P.underlying t with
 | some (.struct fs) =>
  (fs[f]?).bind fun fd => (P.info? fd.type).bind fun i => if i.size = 0 ∨ aliveP h a = false then none else some (moved a fd.offset)
 | _ => none

def fieldOp (P : Program) (t : TypeId) (x : PV) (f : Nat) : Option PV :=
 match P.underlying t, x with
 | some (.struct fs), .agg cs => (fs[f]?).bind fun fd => part P fd.type cs fd.offset
 | _, _ => none

def indexAddrOp (P : Program) (t : TypeId) (h : Heap) (x i : PV) : Option PV :=
 match P.underlying t, i with
 | some (.slice e), .int _ n =>
  if elSize P e = none then none else
  match x with
  | .lst T es => if T = e ∧ 0 ≤ n ∧ n < es.length then some (.eptr T (es.getD n.toNat []) 0) else none
  | .all b => match h[b]? with
   | some (.arr T es _) => if T = e ∧ 0 ≤ n ∧ n < es.length then some (.aptr b n.toNat 0) else none
   | _ => none
  | .own b off m => match h[b]? with
   | some (.arr T es _) => if T = e ∧ 0 ≤ n ∧ n < m ∧ off + n.toNat < es.length then some (.aptr b (off + n.toNat) 0) else none
   | _ => none
  | _ => none
 | some (.array len e), .int _ n =>
  match x with
  | .ptr b off => (P.info? e).bind fun g => if 0 ≤ n ∧ n < len ∧ aliveP h (.ptr b off) = true then some (.ptr b (off + n.toNat * g.size)) else none
  | _ => none
 | _, _ => none

def indexOp (P : Program) (t : TypeId) (x i : PV) : Option PV :=
 match P.underlying t, x, i with
 | some .string, .str s, .int _ n => if 0 ≤ n ∧ n < s.size then some (.int .u8 (s.data.toList.getD n.toNat 0).toNat) else none
 | some (.array len e), .agg cs, .int _ n =>
  (P.info? e).bind fun g => if 0 ≤ n ∧ n < len then part P e cs (n.toNat * g.size) else none
 | _, _, _ => none

def elemOf (P : Program) (t : TypeId) : Option TypeId :=
 match P.underlying t with | some (.slice e) => some e | _ => none

/-- what is appended, as elements -/
def tail (P : Program) (h : Heap) (e : TypeId) (x : PV) : Option (List (List PV)) :=
 match x with
 | .str s => if kdOf P e = .int .u8 then some (bytesOf s) else none
 | x => (content h x).bind fun c => if c.1 = none ∨ c.1 = some e then some c.2 else none

/-- a row that is appended to goes: it lies, or doesn't lie, in the new one -/
def drop1 (h : Heap) (x : PV) : Option Heap :=
 match x with
 | .nils => some h
 | .new _ [] => some h
 | .all b | .own b _ _ => match h[b]? with | some (.arr _ _ true) => some (h.set b .dead) | _ => none
 | _ => none

def appendOp (P : Program) (tys : Array TypeId) (h : Heap) (s x : PV) (al : Option Nat) : Option (PV × Heap) :=
 match tys[0]?, tys[1]? with
 | some sT, some xT =>
  match P.underlying xT with
  | some (.slice _) | some .string =>
   (elemOf P sT).bind fun e => (elSize P e).bind fun _ => (P.info? e).bind fun i => (content h s).bind fun c => (tail P h e x).bind fun ys =>
    if (c.1 = none ∨ c.1 = some e) ∧ (c.2.length + ys.length) * i.bytes ≤ 140737488355328 ∧ 0 < i.bytes then
     (drop1 h s).bind fun h' => let r := allocAt al h' (.arr e (c.2 ++ ys) true); some (.all r.1, r.2)
    else none
  | _ => none
 | _, _ => none

/-! maps: their keys are strings, their values slices or truth values; an entry is a key and a value -/

def keyM (e : List PV) : ByteArray := (e.getD 0 .top).toS
def atM : List (List PV) → ByteArray → PV
 | [], _ => .top
 | e :: es, k => if keyM e == k then e.getD 1 .top else atM es k
/-- the rows of a key; a key's truth value -/
def lkM (es : List (List PV)) (k : ByteArray) : List (List PV) := (atM es k).toL
def lkB (es : List (List PV)) (k : ByteArray) : Bool := (atM es k).toB
def putM : List (List PV) → ByteArray → PV → List (List PV)
 | [], k, x => [[.str k, x]]
 | e :: es, k, x => if keyM e == k then [.str k, x] :: es else e :: putM es k x

/-- the kind of a map's values -/
def mapOf (P : Program) (t : TypeId) : Option TypeId :=
 match P.underlying t with
 | some (.map k e) => match P.underlying k with | some .string => some e | _ => none
 | _ => none
def valOK (P : Program) (e : TypeId) : Bool :=
 match kdOf P e, zeroPV P e with
 | .sl u, some .nils => (elSize P u).isSome
 | .bool, some (.bool false) => true
 | _, _ => false

def makeMapOp (P : Program) (t : TypeId) (al : Option Nat) (h : Heap) : Option (PV × Heap) :=
 (mapOf P t).bind fun e => if valOK P e = true then (let r := allocAt al h (.map e [] .live); some (.mp r.1, r.2)) else none

def lookupOp (P : Program) (t : TypeId) (al : Option Nat) (h : Heap) (m k : PV) : Option (PV × Heap) :=
 match m, k with
 | .mp b, .str s =>
  match h[b]? with
  | some (.map e es st) =>
   if mapOf P t = some e then
    match kdOf P e, st with
    | .sl u, .live => let r := allocAt al (h.set b (.map e es (.out s))) (.arr u (lkM es s) true); some (.all r.1, r.2)
    | .sl u, .fz => some (.lst u (lkM es s), h)
    | .bool, .live => some (.bool (lkB es s), h)
    | .bool, .fz => some (.bool (lkB es s), h)
    | _, _ => none
   else none
  | _ => none
 | _, _ => none

/-- what a map's entry takes in: a row of one's own goes over to the map -/
def mapVal (h : Heap) (kd : Kd) (x : PV) : Option (PV × Heap) :=
 match kd, x with
 | .sl u, .all b => match h[b]? with | some (.arr u' rows true) => if u = u' then some (.lst u rows, h.set b .dead) else none | _ => none
 | .bool, .bool v => some (.bool v, h)
 | _, _ => none

def mapUpdateOp (P : Program) (t : TypeId) (h : Heap) (m k x : PV) : Option Heap :=
 match m, k with
 | .mp b, .str s =>
  match h[b]? with
  | some (.map e es st) =>
   if mapOf P t = some e then
    match st with
    | .live => (mapVal h (kdOf P e) x).map fun r => r.2.set b (.map e (putM es s r.1) .live)
    | .out k0 => if s = k0 then (mapVal h (kdOf P e) x).map fun r => r.2.set b (.map e (putM es s r.1) .live) else none
    | .fz => none
   else none
  | _ => none
 | _, _ => none

def lenOp (P : Program) (t : TypeId) (h : Heap) (x : PV) : Option PV :=
 match P.underlying t, x with
 | some .string, .str s => some (.int .i64 s.size)
 | some (.slice _), .own b off n => match h[b]? with | some (.arr _ es _) => if off + n ≤ es.length then some (.int .i64 n) else none | _ => none
 | some (.slice _), x => (content h x).map fun c => .int .i64 c.2.length
 | _, _ => none

def minmax (mx : Bool) (x y : PV) : Option PV :=
 match x, y with
 | .int k a, .int k' b => if k = k' then some (.int k (if mx then (if b > a then b else a) else (if b < a then b else a))) else none
 | _, _ => none

end Go.Pu
