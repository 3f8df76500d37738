/- The pure machine, second part: calls, code. -/
import Derived.Test.YtkaljlpbmbfpgaaGreatDoorRA
namespace Go.Pu

def refs1 : PV → List Nat
 | .ptr b _ | .aptr b _ _ | .all b | .own b _ _ | .mp b => [b]
 | _ => []

def refs : PV → List Nat
 | .agg cs => cs.flatMap refs1
 | .fn _ caps => caps.flatMap refs1
 | .iface _ v => refs1 v
 | x => refs1 x

def ren1 (f : Nat → Nat) : PV → PV
 | .ptr b o => .ptr (f b) o
 | .aptr b i o => .aptr (f b) i o
 | .all b => .all (f b)
 | .own b o n => .own (f b) o n
 | .mp b => .mp (f b)
 | x => x

def ren (f : Nat → Nat) : PV → PV
 | .agg cs => .agg (cs.map (ren1 f))
 | .fn g caps => .fn g (caps.map (ren1 f))
 | .iface t v => .iface t (ren1 f v)
 | x => ren1 f x

def renR (f : Nat → Nat) : PV → PV
 | .tuple vs => .tuple (vs.map (ren f))
 | x => ren f x

def renBlk (f : Nat → Nat) : Blk → Blk
 | .box t cs => .box t (cs.map (ren f))
 | b => b

/-- no block is named but, it may be, in one step -/
def sh1 : PV → Bool
 | .agg _ | .tuple _ | .new _ _ | .newb _ _ | .fn _ _ | .iface _ _ => false
 | _ => true

def sh : PV → Bool
 | .agg cs => cs.all sh1
 | .fn _ caps => caps.all sh1
 | .iface _ v => sh1 v
 | x => sh1 x

def shR : PV → Bool
 | .tuple vs => vs.all sh
 | x => sh x

def okBlk : Blk → Bool
 | .res => false
 | .box _ cs => cs.all sh
 | .map _ _ (.out _) => false
 | _ => true

def boxRefs (h : Heap) (b : Nat) : List Nat :=
 match h[b]? with | some (.box _ cs) => cs.flatMap refs | _ => []

def addNew : List Nat → List Nat → List Nat
 | acc, [] => acc
 | acc, b :: bs => addNew (if acc.contains b then acc else acc ++ [b]) bs

/-- what is come to from some blocks -/
def close (h : Heap) : Nat → List Nat → List Nat
 | 0, ids => ids
 | n + 1, ids => close h n (addNew ids (ids.flatMap (boxRefs h)))

def nodup : List Nat → Bool
 | [] => true
 | b :: bs => !bs.contains b && nodup bs

def within (l ids : List Nat) : Bool := l.all fun b => ids.contains b

/-- all blocks that some lead to, those first -/
def reach (h : Heap) (roots : List Nat) : Option (List Nat) :=
 let ids := close h 3 (addNew [] roots)
 if nodup ids && ids.all (fun b => okBlk (h.getD b .res)) && within (ids.flatMap (boxRefs h)) ids && within roots ids then some ids else none

def heapOf (h : Heap) (ids : List Nat) : Heap := ids.map fun b => renBlk ids.idxOf (h.getD b .dead)

/-- what a function that only reads is given in the place of a row -/
def view1 (h : Heap) (x : PV) : Option PV :=
 match x with
 | .all _ | .own _ _ _ => (content h x).bind fun c => c.1.map fun t => .lst t c.2
 | x => some x

def mapO {α β : Type} (f : α → Option β) : List α → Option (List β)
 | [] => some []
 | x :: xs => (f x).bind fun y => (mapO f xs).bind fun ys => some (y :: ys)

def view (h : Heap) (x : PV) : Option PV :=
 match x with
 | .agg cs => (mapO (view1 h) cs).map .agg
 | x => view1 h x

/-- nothing of it can lead to what was handed over to be read -/
def flat1 : PV → Bool
 | .bool _ | .int _ _ | .str _ | .nils | .all _ | .own _ _ _ => true
 | _ => false

def flat : PV → Bool
 | .agg cs => cs.all flat1
 | x => flat1 x

def flatBlk (P : Program) : Blk → Bool
 | .arr t _ true => (kds P t).all scalarKd
 | _ => false

def flatT : PV → Bool
 | .tuple vs => vs.all flat
 | x => flat x

def flatR (P : Program) (h : Heap) (x : PV) : Bool := h.all (flatBlk P) && flatT x

def setMany : Heap → List Nat → List Blk → Heap
 | h, i :: is, b :: bs => setMany (h.set i b) is bs
 | h, _, _ => h

/-- new blocks: behind all, or where a place was kept -/
def addMany (al : Option Nat) (h : Heap) (bs : List Blk) : Heap :=
 match al with
 | none => h ++ bs
 | some s => setMany h (List.range' s bs.length) bs

def fwd (ids : List Nat) (base : Nat) (j : Nat) : Nat := if j < ids.length then ids.getD j 0 else base + (j - ids.length)

abbrev CallF := FuncId → List PV → List Blk → Option (PV × List Blk)

def resFree (h : Heap) (al : Option Nat) (n : Nat) : Bool :=
 match al with
 | none => true
 | some s => (List.range' s n).all fun i => match h[i]? with | some .res => true | _ => false

def baseOf (al : Option Nat) (h : Heap) : Nat := match al with | none => h.length | some s => s

/-- blocks that an operation looks at; those of them that it may change, and the places that were kept for it -/
abbrev Foot := List Nat × List Nat

def slotIds (al : Option Nat) (n : Nat) : List Nat := match al with | none => [] | some s => List.range' s n

def callCore (P : Program) (C : CallF) (M : FuncId → Bool) (al : Option Nat) (h : Heap) (f : FuncId) (xs : List PV) : Option ((PV × Heap) × Foot) :=
 (if M f then some xs else mapO (view h) xs).bind fun ys =>
  (reach h (ys.flatMap refs)).bind fun ids =>
   if ys.all sh && (M f || (xs.flatMap refs).all fun b => match h[b]? with | some (.arr _ _ _) => !ids.contains b | _ => true) then
    (C f (ys.map (ren ids.idxOf)) (heapOf h ids)).bind fun r =>
     let vids := (xs.flatMap refs).filter fun b => !ids.contains b
     let h1 := if ids.isEmpty && flatR P r.2 r.1 then h else vids.foldl freeze h
     let g := fwd ids (baseOf al h)
     let bs := r.2.map (renBlk g)
     if resFree h al (bs.drop ids.length).length && r.2.all okBlk && shR r.1 then
      some ((renR g r.1, addMany al (setMany h1 ids (bs.take ids.length)) (bs.drop ids.length)),
       (xs.flatMap refs ++ ids ++ slotIds al (bs.drop ids.length).length, (if ids.isEmpty && flatR P r.2 r.1 then [] else ids ++ vids) ++ slotIds al (bs.drop ids.length).length))
     else none
   else none

def callOp (P : Program) (C : CallF) (M : FuncId → Bool) (al : Option Nat) (h : Heap) (f : FuncId) (xs : List PV) : Option (PV × Heap) :=
 (callCore P C M al h f xs).map (·.1)

def builtinOp (P : Program) (b : Builtin) (tys : Array TypeId) (al : Option Nat) (h : Heap) (xs : List PV) : Option (PV × Heap) :=
 match b, xs with
 | .len, [x] => match tys[0]? with | some t => (lenOp P t h x).map fun v => (v, h) | none => none
 | .append, [s, x] => appendOp P tys h s x al
 | .min, x :: rest => (rest.foldl (fun acc y => acc.bind fun a => minmax false a y) (some x)).map fun v => (v, h)
 | .max, x :: rest => (rest.foldl (fun acc y => acc.bind fun a => minmax true a y) (some x)).map fun v => (v, h)
 | _, _ => none

def evs (ts : List PV) (xs : Array Operand) : List PV := xs.toList.map (ev ts)
def evp (ts : List PV) (ps : Array (Nat × Operand)) : List (Nat × PV) := ps.toList.map fun p => (p.1, ev ts p.2)
def evo (ts : List PV) (x : Option Operand) : Option PV := x.map (ev ts)

def keep (h : Heap) (x : Option PV) : Option (PV × Heap) := x.map fun v => (v, h)

/-- the function, and the receiver, that a method of an interface value is -/
def invokeOf (P : Program) (h : Heap) (x : PV) (name : String) : Option (FuncId × PV) :=
 match x with
 | .iface t y =>
  match P.underlying t with
  | some (.pointer _) =>
   (P.info? t).bind fun i => (i.methods.find? (·.name == name)).bind fun m =>
    match m.func with
    | some (f, true) =>
     match m.path.toList with
     | [] => some (f, y)
     | [s] =>
      match s.deref, P.underlying s.struct with
      | true, some (.struct fs) => (fs[s.index]?).bind fun fd => (P.info? fd.type).bind fun i =>
       match P.underlying fd.type with
       | some (.struct _) => if i.size = 0 ∨ aliveP h y = false then none else some (f, moved y fd.offset)
       | _ => none
      | _, _ => none
     | _ => none
    | _ => none
  | _ => none
 | _ => none

def addLo (x y c : Int) : Int := (x + y + c) % 18446744073709551616
def addHi (x y c : Int) : Int := (x + y + c) / 18446744073709551616
def subLo (x y c : Int) : Int := (x - y - c) % 18446744073709551616
def subHi (x y c : Int) : Int := if x < y + c then 1 else 0

/-- functions that the model answers for: sums, and differences, with a carry -/
def externOf (P : Program) (f : FuncId) : Option Bool :=
 match P.funcs[f]? with
 | some fn => if fn.body.isNone && (Extern.findNext fn).isNone then (if fn.name == "math/bits.Add64" then some true else if fn.name == "math/bits.Sub64" then some false else none) else none
 | none => none

def externIn (x y c : Int) : Bool := decide (0 ≤ x ∧ 0 ≤ y ∧ y < 18446744073709551616 ∧ 0 ≤ c ∧ c ≤ 1)
def externOut (add : Bool) (x y c : Int) : PV :=
 match add with
 | true => .tuple [.int .u64 (addLo x y c), .int .u64 (addHi x y c)]
 | false => .tuple [.int .u64 (subLo x y c), .int .u64 (subHi x y c)]
def externOp (add : Bool) (xs : List PV) : Option PV :=
 match xs with
 | [.int .u64 x, .int .u64 y, .int .u64 c] => if externIn x y c = true then some (externOut add x y c) else none
 | _ => none

/-- a pointer as an interface value -/
def ifaceOp (P : Program) (t : TypeId) (x : PV) : Option PV :=
 match P.underlying t, x with
 | some (.pointer _), .ptr b o => some (.iface t (.ptr b o))
 | _, _ => none

def doOp (P : Program) (C : CallF) (M : FuncId → Bool) (al : Option Nat) (ts : List PV) (h : Heap) (op : Op) : Option (PV × Heap) :=
 match op with
 | .move x | .assign x => some (ev ts x, h)
 | .pick c a b => match ev ts c with
  | .bool true => some (ev ts a, h)
  | .bool false => some (ev ts b, h)
  | _ => none
 | .alloc t => (zeroPV P t).map fun z => let r := allocAt al h (.box t z.cells); (.ptr r.1 0, r.2)
 | .box t x => if okv h (ev ts x) then let r := allocAt al h (.box t (ev ts x).cells); some (.ptr r.1 0, r.2) else none
 | .build t ps => keep h (buildOp P t h (evp ts ps))
 | .buildSlice t len ps => buildSliceOp P t len (evp ts ps) al h
 | .load t a => keep h (loadOp P t h (ev ts a))
 | .store t a x => (storeOp P t h (ev ts a) (ev ts x)).map fun h' => (.top, h')
 | .nilCheck x => match ev ts x with
  | .fn f cs => some (.fn f cs, h)
  | a => if aliveP h a then some (a, h) else none
 | .binOp o t x y _ => keep h (binOp P o t (ev ts x) (ev ts y))
 | .unOp o _ x => keep h (unOp o (ev ts x))
 | .convert s d x => keep h (convertOp P s d h (ev ts x))
 | .makeFunc (.func f) first caps => if first.size = 0 then some (.fn f (evs ts caps), h) else none
 | .makeSlice t l c => makeSliceOp P t (ev ts l) (ev ts c) al h
 | .makeMap t none => makeMapOp P t al h
 | .lookup t m k false => lookupOp P t al h (ev ts m) (ev ts k)
 | .mapUpdate t m k x => (mapUpdateOp P t h (ev ts m) (ev ts k) (ev ts x)).map fun h' => (.top, h')
 | .slice t x lo hi mx => keep h (sliceOp P t h (ev ts x) (evo ts lo) (evo ts hi) (evo ts mx))
 | .fieldAddr t x f => keep h (fieldAddrOp P t h (ev ts x) f)
 | .field t x f => keep h (fieldOp P t (ev ts x) f)
 | .indexAddr t x i => keep h (indexAddrOp P t h (ev ts x) (ev ts i))
 | .index t x i => keep h (indexOp P t (ev ts x) (ev ts i))
 | .extract x j => match ev ts x with | .tuple vs => keep h vs[j]? | _ => none
 | .call c => match c.callee with
  | .builtin b => builtinOp P b c.argTypes al h (evs ts c.args)
  | .value f => match ev ts f with
   | .fn g caps => match externOf P g with
    | some e => keep h (externOp e (evs ts c.args ++ caps))
    | none => callOp P C M al h g (evs ts c.args ++ caps)
   | _ => none
  | .invoke x name => match invokeOf P h (ev ts x) name with
   | some (g, y) => callOp P C M al h g (y :: evs ts c.args)
   | none => none
 | .makeInterface t x => keep h (ifaceOp P t (ev ts x))
 | _ => none

def refsT : PV → List Nat
 | .tuple vs => vs.flatMap refs
 | x => refs x

/-- how many new blocks an operation may make where it stands among others in no order -/
def slotsOf : Op → Nat
 | .alloc _ | .box _ _ | .buildSlice _ _ _ | .makeSlice _ _ _ | .makeMap _ _ | .lookup _ _ _ _ => 1
 | .call c => match c.callee with | .builtin .append => 1 | .value _ => 3 | .invoke _ _ => 3 | _ => 0
 | _ => 0

def writesOp : Op → Bool
 | .store _ _ _ | .buildSlice _ _ _ | .makeSlice _ _ _ | .lookup _ _ _ _ | .mapUpdate _ _ _ _ => true
 | .call c => match c.callee with | .builtin .append => true | _ => false
 | _ => false

/-- operations that hand a value on and look at no block -/
def hands : Op → Bool
 | .extract _ _ | .move _ | .assign _ => true
 | _ => false

def footOp (al : Option Nat) (ts : List PV) (op : Op) : Foot :=
 let S := if hands op = true then [] else op.operands.toList.flatMap fun x => refsT (ev ts x)
 (S ++ slotIds al 1, (if writesOp op then S else []) ++ slotIds al 1)

def doOpF (P : Program) (C : CallF) (M : FuncId → Bool) (al : Option Nat) (ts : List PV) (h : Heap) (op : Op) : Option ((PV × Heap) × Foot) :=
 match op with
 | .call c => match c.callee with
  | .value f => match ev ts f with
   | .fn g caps => match externOf P g with
    | some e => (keep h (externOp e (evs ts c.args ++ caps))).map fun r => (r, ([], []))
    | none => callCore P C M al h g (evs ts c.args ++ caps)
   | _ => none
  | .invoke x name => match invokeOf P h (ev ts x) name with
   | some (g, y) => callCore P C M al h g (y :: evs ts c.args)
   | none => none
  | _ => (doOp P C M al ts h op).map fun r => (r, footOp al ts op)
 | _ => (doOp P C M al ts h op).map fun r => (r, footOp al ts op)

def alFree (h : Heap) (al : Option Nat) : Bool :=
 match al with
 | none => true
 | some s => match h[s]? with | some .res => true | _ => false

def doOpG (P : Program) (C : CallF) (M : FuncId → Bool) (al : Option Nat) (ts : List PV) (h : Heap) (op : Op) : Option ((PV × Heap) × Foot) :=
 if alFree h al then (doOpF P C M al ts h op).map fun r => (r.1, (slotIds al 1 ++ r.2.1, r.2.2)) else none

def put (ts : List PV) (d : Option Tmp) (x : PV) : List PV :=
 match d with | some d => ts.set d x | none => ts

inductive Ex where
 | normal | exit (id : Nat) | ret

section
variable {R : Type} (P : Program) (C : CallF) (M : FuncId → Bool)

/-- operations, one behind the other; a test on which one hangs parts the ways -/
def runOps (ops : Array Oper) : List Oper → List PV → Heap → (List PV → Heap → Option R) → Option R
 | [], ts, h, k => k ts h
 | o :: rest, ts, h, k =>
  let go (ts : List PV) : Option R := (doOp P C M none ts h o.op).bind fun r => runOps ops rest (put ts o.dst r.1) r.2 k
  match o.guard with
  | none => go ts
  | some (j, want) =>
   match (ops[j]?).bind (·.dst) with
   | none => none
   | some d =>
    match ts.getD d .top with
    | .bool b =>
     if b = true then
      (if want then go (ts.set d (.bool true)) else runOps ops rest (put (ts.set d (.bool true)) o.dst (.tuple [])) h k)
     else
      (if want then runOps ops rest (put (ts.set d (.bool false)) o.dst (.tuple [])) h k else go (ts.set d (.bool false)))
    | .tuple [] => runOps ops rest (put ts o.dst (.tuple [])) h k
    | _ => none

def indep (F G : Foot) : Bool := F.2.all (fun b => !G.1.contains b) && G.2.all (fun b => !F.1.contains b)

/-- whom each operation waits for, at one or more removes -/
def ancs : List Oper → List (List Nat) → List (List Nat)
 | [], acc => acc
 | o :: rest, acc => ancs rest (acc ++ [addNew [] (o.after.toList.flatMap fun e => if Region.binds .any e then e.on :: acc.getD e.on [] else [])])

/-- of the text alone: each waits for earlier ones only, and two of which none waits for the other share no place -/
def staticOK (ops : Array Oper) : Bool :=
 let A := ancs ops.toList []
 (List.range ops.size).all fun k => match ops[k]? with
  | none => false
  | some o => o.after.all (fun e => !Region.binds .any e || decide (e.on < k)) &&
   (List.range k).all fun i => (A.getD k []).contains i || (match ops[i]? with | some oi => oi.apart ops o | none => false)

def dynOK (ops : Array Oper) (F : List Foot) : Bool :=
 let A := ancs ops.toList []
 (List.range ops.size).all fun k => (List.range k).all fun i => (A.getD k []).contains i || indep (F.getD i ([], [])) (F.getD k ([], []))

def slotAt (o : Oper) (s : Nat) : Option Nat := if slotsOf o.op = 0 then none else some s

def runDraw (ops : Array Oper) : List Oper → Nat → List Foot → List PV → Heap → (List PV → Heap → Option R) → Option R
 | [], _, F, ts, h, k => if dynOK ops F then k ts h else none
 | o :: rest, s, F, ts, h, k =>
  let go (ts : List PV) : Option R := (doOpG P C M (slotAt o s) ts h o.op).bind fun r => runDraw ops rest (s + slotsOf o.op) (F ++ [r.2]) (put ts o.dst r.1.1) r.1.2 k
  match o.guard with
  | none => go ts
  | some (j, want) =>
   match (ops[j]?).bind (·.dst) with
   | none => none
   | some d =>
    match ts.getD d .top with
    | .bool b =>
     if b = true then
      (if want then go (ts.set d (.bool true)) else runDraw ops rest (s + slotsOf o.op) (F ++ [([], [])]) (put (ts.set d (.bool true)) o.dst (.tuple [])) h k)
     else
      (if want then runDraw ops rest (s + slotsOf o.op) (F ++ [([], [])]) (put (ts.set d (.bool false)) o.dst (.tuple [])) h k else go (ts.set d (.bool false)))
    | .tuple [] => runDraw ops rest (s + slotsOf o.op) (F ++ [([], [])]) (put ts o.dst (.tuple [])) h k
    | _ => none

def reserve (ops : Array Oper) (h : Heap) : Heap := h ++ List.replicate ((ops.toList.map fun o => slotsOf o.op).sum) .res

/-- only some places -/
def keepL (live : List Nat) : Nat → List PV → List PV
 | _, [] => []
 | i, v :: r => (if live.contains i then v else .top) :: keepL live (i + 1) r

theorem keepL_get (live : List Nat) : ∀ (ts : List PV) (i j : Nat), (keepL live i ts)[j]? = (ts[j]?).map fun v => if live.contains (i + j) then v else .top
 | [], _, _ => by simp [keepL]
 | v :: r, i, 0 => by simp [keepL]
 | v :: r, i, j + 1 => by
  simp only [keepL, List.getElem?_cons_succ, keepL_get live r (i + 1) j]
  have : i + 1 + j = i + (j + 1) := by omega
  rw [this]

theorem keepL_eq (live : List Nat) (ts : List PV) : keepL live 0 ts = ts.mapIdx fun i v => if live.contains i then v else .top := by
 apply List.ext_getElem?
 intro j
 rw [keepL_get, List.getElem?_mapIdx, Nat.zero_add]

/-- only some places are kept, and the blocks that they lead to, those that came in (k of them) first -/
def gc (k : Nat) (live : List Nat) (ts : List PV) (h : Heap) : Option (List PV × Heap) :=
 let ts1 := keepL live 0 ts
 (reach h (List.range k ++ ts1.flatMap refs)).bind fun ids =>
  if ts1.all sh && decide (ids.take k = List.range k) then some (ts1.map (ren ids.idxOf), heapOf h ids) else none

/-- a map that is written no more -/
def frzMap (h : Heap) (v : PV) : Heap :=
 match v with
 | .mp b => match h[b]? with
  | some (.map t es .live) => h.set b (.map t es .fz)
  | _ => h
 | _ => h

/-- what is made of a slice that is known: 499999: a map is written no more; 0 nothing; 2t+1: nothing becomes an empty row of one's own; 2t+2: it becomes plain data; from 500000 on: a row of one's own, or a part of it, becomes a new one -/
def fixCell (P : Program) (c : Nat) (v : PV) (h : Heap) : Option (PV × Heap) :=
 if c = 0 then some (v, h) else
 if c = 499999 then some (v, frzMap h v) else
 if 500000 ≤ c then
  match v with
  | .own b off n => match h[b]? with
   | some (.arr t es true) => some (.all h.length, h.set b .dead ++ [.arr t ((es.drop off).take n) true])
   | _ => some (v, h)
  | .all b => match h[b]? with
   | some (.arr t es true) => some (.all h.length, h.set b .dead ++ [.arr t es true])
   | _ => some (v, h)
  | .nils => if elSize P ((c - 500000) / 2) = none then none else some (.all h.length, h ++ [.arr ((c - 500000) / 2) [] true])
  | v => some (v, h)
 else
 if c % 2 = 1 then
  match v with
  | .nils => if elSize P (c / 2) = none then none else some (.all h.length, h ++ [.arr (c / 2) [] true])
  | v => some (v, h)
 else purCell h (.sl (c / 2 - 1)) v

def fixAt (P : Program) (e : Nat) (ts : List PV) (h : Heap) : Option (List PV × Heap) :=
 let p := e % 1000000
 let c := e / 1000000 % 1000000
 let o := e / 1000000000000
 if c = 0 then some (ts, h) else
 if o = 0 then (if p < ts.length then (fixCell P c (ts.getD p .top) h).map fun r => (ts.set p r.1, r.2) else none) else
 match ts.getD p .top with
 | .agg cs => if o - 1 < cs.length then (fixCell P c (cs.getD (o - 1) .top) h).map fun r => (ts.set p (.agg (cs.set (o - 1) r.1)), r.2) else none
 | .ptr b 0 =>
  match h[b]? with
  | some (.box t cs) => if o - 1 < cs.length then (fixCell P c (cs.getD (o - 1) .top) h).bind fun r => some (ts, r.2.set b (.box t (cs.set (o - 1) r.1))) else none
  | _ => none
 | _ => none

def fixes (P : Program) : List Nat → List PV → Heap → Option (List PV × Heap)
 | [], ts, h => some (ts, h)
 | e :: es, ts, h => (fixAt P e ts h).bind fun c => fixes P es c.1 c.2

def cleanL (P : Program) (kk : Nat) (l : Option (List Nat)) (ts : List PV) (h : Heap) : Option (List PV × Heap) :=
 match l with | some l => (fixes P l ts h).bind fun c => gc kk (l.map (· % 1000000)) c.1 c.2 | none => some (ts, h)

/-- what is kept at a loop's head; behind it, where one goes on; and where one goes out of the function -/
def cleanX (P : Program) (kk : Nat) (live : Nat → Option (List Nat)) (i : Nat) : Ex → List PV → Heap → Option (List PV × Heap)
 | .normal, ts, h => cleanL P kk (live i) ts h
 | .exit _, ts, h => match live (i + 1000000) with | some l => cleanL P kk (some l) ts h | none => cleanL P kk (live i) ts h
 | .ret, ts, h => match live (i + 2000000) with | some l => cleanL P kk (some l) ts h | none => cleanL P kk (live i) ts h

def loopN (run : List PV → Heap → (Ex → List PV → Heap → Option R) → Option R) (clean : Ex → List PV → Heap → Option (List PV × Heap)) :
  Nat → List PV → Heap → (Ex → List PV → Heap → Option R) → Option R
 | 0, _, _, _ => none
 | m + 1, ts, h, k =>
  (clean .normal ts h).bind fun c => run c.1 c.2 fun e ts' h' =>
   match e with
   | .normal => loopN run clean m ts' h' k
   | .exit i => (clean (.exit i) ts' h').bind fun c => k (.exit i) c.1 c.2
   | .ret => (clean .ret ts' h').bind fun c => k .ret c.1 c.2

def rid : Code → Nat
 | .region id _ _ => id
 | .seq a b => match a with | .skip => rid b | .label _ => rid b | a => rid a
 | .block _ b => rid b
 | .loop b => rid b
 | .scope b => rid b
 | _ => 0

def run (n kk : Nat) (live : Nat → Option (List Nat)) : Code → List PV → Heap → (Ex → List PV → Heap → Option R) → Option R
 | .skip, ts, h, k => k .normal ts h
 | .label _, ts, h, k => k .normal ts h
 | .region _ ops d, ts, h, k => if d = true then (if staticOK ops then runDraw P C M ops ops.toList h.length [] ts (reserve ops h) (k .normal) else none) else runOps P C M ops ops.toList ts h (k .normal)
 | .seq a b, ts, h, k => run n kk live a ts h fun e ts' h' =>
  match e with
  | .normal => run n kk live b ts' h' k
  | .exit i => k (.exit i) ts' h'
  | .ret => k .ret ts' h'
 | .cond c a b, ts, h, k =>
  match ev ts c with
  | .bool t => if t = true then run n kk live a ts h k else run n kk live b ts h k
  | _ => none
 | .block id a, ts, h, k => run n kk live a ts h fun e ts' h' =>
  match e with
  | .normal => k .normal ts' h'
  | .exit i => if i = id then k .normal ts' h' else k (.exit i) ts' h'
  | .ret => k .ret ts' h'
 | .loop a, ts, h, k =>
  loopN (run n kk live a) (cleanX P kk live (rid a)) n ts h k
 | .scope a, ts, h, k => run n kk live a ts h k
 | .exit i, ts, h, k => k (.exit i) ts h
 | .ret, ts, h, k => k .ret ts h
 | _, _, _, _ => none
end

def resVal (P : Program) (ts : List PV) (h : Heap) : ResultVar → Option PV
 | .tmp t => some (ts.getD t .top)
 | .cell a t => loadOp P t h (ts.getD a .top)

def refsR : PV → List Nat
 | .tuple vs => vs.flatMap refs
 | x => refs x

def oneOf (vs : List PV) : PV := match vs with | [v] => v | vs => .tuple vs

def finish (P : Program) (fn : Func) (k : Nat) (ts : List PV) (h : Heap) : Option (PV × List Blk) :=
 (mapO (resVal P ts h) fn.results.toList).bind fun vs =>
  let raw := oneOf vs
  (reach h (List.range k ++ refsR raw)).bind fun ids =>
   if shR raw && decide (ids.take k = List.range k) then some (renR ids.idxOf raw, heapOf h ids) else none

/-- what a function is told to hand back: by tests -/
inductive Tr where
 | fail
 | ret (v : PV) (h : List Blk)
 | test (b : Bool) (x y : Tr)

def Tr.val : Tr → Option (PV × List Blk)
 | .fail => none
 | .ret v h => some (v, h)
 | .test b x y => if b = true then x.val else y.val

/-- functions that are given, not looked into -/
abbrev Ext := FuncId → Option (List PV → List Blk → Tr)

/-- the call of a function, with the blocks that it is handed; L: what is live at a loop's head -/
def call (P : Program) (X : Ext) (M : FuncId → Bool) (L : FuncId → Nat → Option (List Nat)) : Nat → CallF
 | 0, _, _, _ => none
 | n + 1, f, xs, hc =>
  match X f with
  | some g => (g xs hc).val
  | none =>
  match P.funcs[f]? with
  | none => none
  | some fn =>
   match fn.body with
   | none => none
   | some body =>
    run P (call P X M L n) M n hc.length (L f) body (xs ++ List.replicate (fn.ntmps - xs.length) .top) hc fun e ts h =>
     match e with
     | .exit _ => none
     | _ => finish P fn hc.length ts h

end Go.Pu
