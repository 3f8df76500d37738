/- The pure machine, thirty-second part: the same machine, told so that every test stands outermost: for equations that hold by computation. -/
import Derived.Test.YtkaljlpbmbfpgaaGreatDoorSM
set_option linter.unusedSimpArgs false
set_option linter.unusedVariables false
namespace Go.Pu

def br {R : Type} (b : Bool) (x y : Option R) : Option R := match b with | true => x | false => y
theorem br_if {R : Type} (b : Bool) (x y : Option R) : br b x y = if b = true then x else y := by cases b <;> rfl
theorem br_pos {R : Type} {b : Bool} {x y : Option R} (h : b = true) : br b x y = x := by subst h; rfl

section
variable {R : Type} (B : Bool → Option R → Option R → Option R) (P : Program)

def contentK (h : Heap) (x : PV) (k : Option TypeId × List (List PV) → Option R) : Option R :=
 match x with
 | .own b off n => match h[b]? with
  | some (.arr t es _) => B (decide (off + n ≤ es.length)) (k (some t, (es.drop off).take n)) none
  | _ => none
 | x => (content h x).bind k

def binOpK (op : BinOp) (t : TypeId) (x y : PV) (k : PV → Option R) : Option R :=
 match x, y with
 | .int kx a, .int ky b =>
  match op with
  | .shl => B (decide (b < 0)) none (k (.int kx (kx.wrap (a * 2 ^ (min b.toNat kx.bits)))))
  | .shr => B (decide (b < 0)) none (k (.int kx (a.fdiv (2 ^ (min b.toNat kx.bits)))))
  | .quo => if kx = ky then B (decide (b = 0)) none (k (.int kx (kx.wrap (a.tdiv b)))) else none
  | .rem => if kx = ky then B (decide (b = 0)) none (k (.int kx (a.tmod b))) else none
  | op => (binOp P op t (.int kx a) (.int ky b)).bind k
 | .str a, .str b =>
  match op with
  | .add => B (decide (a.size + b.size ≤ 9223372036854775807)) (k (.str (a ++ b))) none
  | op => (strOp op a b).bind k
 | .lst u es, .nils =>
  B es.isEmpty none (match op, P.underlying t with
   | .eql, some (.slice _) => k (.bool false)
   | .neq, some (.slice _) => k (.bool true)
   | _, _ => none)
 | x, y => (binOp P op t x y).bind k

def indexOpK (t : TypeId) (x i : PV) (k : PV → Option R) : Option R :=
 match P.underlying t, x, i with
 | some .string, .str s, .int _ n => B (decide (0 ≤ n ∧ n < s.size)) (k (.int .u8 (s.data.toList.getD n.toNat 0).toNat)) none
 | _, _, _ => (indexOp P t x i).bind k

def indexAddrOpK (t : TypeId) (h : Heap) (x i : PV) (k : PV → Option R) : Option R :=
 match P.underlying t, i with
 | some (.slice e), .int _ n =>
  if elSize P e = none then none else
  match x with
  | .lst T es => if T = e then B (decide (0 ≤ n ∧ n < es.length)) (k (.eptr T (es.getD n.toNat []) 0)) none else none
  | .all b => match h[b]? with
   | some (.arr T es _) => if T = e then B (decide (0 ≤ n ∧ n < es.length)) (k (.aptr b n.toNat 0)) none else none
   | _ => none
  | .own b off m => match h[b]? with
   | some (.arr T es _) => if T = e then B (decide (0 ≤ n ∧ n < m ∧ off + n.toNat < es.length)) (k (.aptr b (off + n.toNat) 0)) none else none
   | _ => none
  | _ => none
 | some (.array len e), .int _ n =>
  match x with
  | .ptr b off => (P.info? e).bind fun g => if aliveP h (.ptr b off) = true then B (decide (0 ≤ n ∧ n < len)) (k (.ptr b (off + n.toNat * g.size))) none else none
  | _ => none
 | _, _ => none

def sliceRowK (e : TypeId) (h : Heap) (lo hi : Option PV) (x : PV) (k : PV → Option R) : Option R :=
 if elSize P e = none then none else
 match x with
 | .lst T es =>
  (bound lo 0).bind fun l => (bound hi es.length).bind fun u =>
   if T = e then B (decide (0 ≤ l ∧ l ≤ u ∧ u ≤ es.length)) (k (.lst T ((es.drop l.toNat).take (u.toNat - l.toNat)))) none else none
 | .all b =>
  match h[b]? with
  | some (.arr T es _) =>
   (bound lo 0).bind fun l => (bound hi es.length).bind fun u =>
    if T = e then B (decide (0 ≤ l ∧ l ≤ u ∧ u ≤ es.length)) (k (.own b l.toNat (u.toNat - l.toNat))) none else none
  | _ => none
 | .own b off n =>
  match h[b]? with
  | some (.arr T _ _) =>
   (bound lo 0).bind fun l => (bound hi n).bind fun u =>
    if T = e then B (decide (0 ≤ l ∧ l ≤ u ∧ u ≤ n)) (k (.own b (off + l.toNat) (u.toNat - l.toNat))) none else none
  | _ => none
 | x => (sliceRow P e h lo hi x).bind k

def sliceStrK (s : ByteArray) (lo hi : Option PV) (k : PV → Option R) : Option R :=
 (bound lo 0).bind fun l => (bound hi s.size).bind fun u =>
  B (decide (0 ≤ l ∧ l ≤ u ∧ u ≤ s.size)) (k (.str (s.extract l.toNat u.toNat))) none

def sliceOpK (t : TypeId) (h : Heap) (x : PV) (lo hi mx : Option PV) (k : PV → Option R) : Option R :=
 if mx.isSome then (sliceZero P t h x lo hi mx).bind k else
 match P.underlying t with
 | some .string => match x with | .str s => sliceStrK B s lo hi k | _ => none
 | some (.slice e) => sliceRowK B P e h lo hi x k
 | _ => none

def loadOpK (t : TypeId) (h : Heap) (a : PV) (k : PV → Option R) : Option R :=
 match a with
 | .aptr b i off => match h[b]? with | some (.arr T es _) => B (decide (i < es.length)) ((loadEl P t T (es.getD i []) off).bind k) none | _ => none
 | a => (loadOp P t h a).bind k

def purCellK (h : Heap) (kd : Kd) (x : PV) (k : PV × Heap → Option R) : Option R :=
 match kd, x with
 | .sl t, .own b off n => match h[b]? with
  | some (.arr t' es _) => if t = t' then B (decide (off + n ≤ es.length)) (k (.lst t ((es.drop off).take n), freeze h b)) none else none
  | _ => none
 | kd, x => (purCell h kd x).bind k

def purCellsK (h : Heap) : List Kd → List PV → (List PV × Heap → Option R) → Option R
 | [], [], k => k ([], h)
 | kd :: ks, c :: cs, k => purCellK B h kd c fun r => purCellsK r.2 ks cs fun s => k (r.1 :: s.1, s.2)
 | _, _, _ => none

def storeOpK (t : TypeId) (h : Heap) (a x : PV) (k : Heap → Option R) : Option R :=
 match P.info? t with
 | none => none
 | some i =>
  if x.cells.length ≠ i.size ∨ x.cells.all cell1 = false ∨ okv h x = false ∨ x.cells.all (okv h) = false then none else
  match a with
  | .aptr b j off => match h[b]? with
   | some (.arr T es true) =>
    if off + i.size ≤ (kds P T).length then
     B (decide (j < es.length))
     (purCellsK B h (((kds P T).drop off).take i.size) x.cells fun r =>
      match r.2[b]? with
      | some (.arr _ es2 true) => k (r.2.set b (.arr T (es2.set j (setCells (es2.getD j []) off r.1)) true))
      | _ => none) none
    else none
   | _ => none
  | a => (storeOp P t h a x).bind k

def litElsK (e : TypeId) (h : Heap) : Nat → List (Nat × PV) → (List (List PV) × Heap → Option R) → Option R
 | _, [], k => k ([], h)
 | j, (i, v) :: rest, k =>
  if i = j ∧ okv h v = true then
   purCellsK B h (kds P e) v.cells fun r => litElsK e r.2 (j + 1) rest fun s => k (r.1 :: s.1, s.2)
  else none

def buildSliceOpK (t : TypeId) (len : Nat) (parts : List (Nat × PV)) (al : Option Nat) (h : Heap) (k : PV × Heap → Option R) : Option R :=
 match P.underlying t with
 | some (.slice e) =>
  (elSize P e).bind fun sz =>
   if parts.length = len ∧ len * sz ≤ 16777216 then
    litElsK B P e h 0 parts fun r => let z := allocAt al r.2 (.arr e r.1 true); k (.all z.1, z.2)
   else none
 | _ => none

def makeSliceOpK (t : TypeId) (len cap : PV) (al : Option Nat) (h : Heap) (k : PV × Heap → Option R) : Option R :=
 match P.underlying t, len, cap with
 | some (.slice e), .int .i64 n, .int .i64 c =>
  (elSize P e).bind fun _ => (P.info? e).bind fun i => (zeroEl P e).bind fun z =>
   B (decide (0 ≤ n ∧ n ≤ c ∧ i.bytes * c ≤ 140737488355328 ∧ c ≤ 140737488355328))
    (B (decide (n = c)) (let r := allocAt al h (.arr e (List.replicate n.toNat z) true); k (.all r.1, r.2))
     (let r := allocAt al h (.arr e (List.replicate n.toNat z) true); k (.own r.1 0 n.toNat, r.2)))
   none
 | _, _, _ => none

def sameOp : Operand → Operand → Bool
 | .tmp a, .tmp b => a == b
 | _, _ => false
theorem sameOp_eq {x y : Operand} (h : sameOp x y = true) : x = y := by
 unfold sameOp at h
 split at h
 ·rw [beq_iff_eq.1 h]
 ·cases h

/-- as long as there is room -/
def makeSliceEqK (t : TypeId) (len : PV) (al : Option Nat) (h : Heap) (k : PV × Heap → Option R) : Option R :=
 match P.underlying t, len with
 | some (.slice e), .int .i64 n =>
  (elSize P e).bind fun _ => (P.info? e).bind fun i => (zeroEl P e).bind fun z =>
   B (decide (0 ≤ n ∧ n ≤ n ∧ i.bytes * n ≤ 140737488355328 ∧ n ≤ 140737488355328))
    (let r := allocAt al h (.arr e (List.replicate n.toNat z) true); k (.all r.1, r.2))
   none
 | _, _ => none

def tailK (h : Heap) (e : TypeId) (x : PV) (k : List (List PV) → Option R) : Option R :=
 match x with
 | .str s => if kdOf P e = .int .u8 then k (bytesOf s) else none
 | x => contentK B h x fun c => if c.1 = none ∨ c.1 = some e then k c.2 else none

def appendOpK (tys : Array TypeId) (h : Heap) (s x : PV) (al : Option Nat) (k : PV × Heap → Option R) : Option R :=
 match tys[0]?, tys[1]? with
 | some sT, some xT =>
  match P.underlying xT with
  | some (.slice _) | some .string =>
   (elemOf P sT).bind fun e => (elSize P e).bind fun _ => (P.info? e).bind fun i => contentK B h s fun c => tailK B P h e x fun ys =>
    if (c.1 = none ∨ c.1 = some e) ∧ 0 < i.bytes then
     B (decide ((c.2.length + ys.length) * i.bytes ≤ 140737488355328))
      ((drop1 h s).bind fun h' => let r := allocAt al h' (.arr e (c.2 ++ ys) true); k (.all r.1, r.2))
     none
    else none
  | _ => none
 | _, _ => none

def mapUpdateOpK (t : TypeId) (h : Heap) (m ky x : PV) (k : Heap → Option R) : Option R :=
 match m, ky with
 | .mp b, .str s =>
  match h[b]? with
  | some (.map e es st) =>
   if mapOf P t = some e then
    match st with
    | .live => (mapVal h (kdOf P e) x).bind fun r => k (r.2.set b (.map e (putM es s r.1) .live))
    | .out k0 => (mapVal h (kdOf P e) x).bind fun r => B (decide (s = k0)) (k (r.2.set b (.map e (putM es s r.1) .live))) none
    | .fz => none
   else none
  | _ => none
 | _, _ => none

def lenOpK (t : TypeId) (h : Heap) (x : PV) (k : PV → Option R) : Option R :=
 match P.underlying t, x with
 | some (.slice _), .own b off n => match h[b]? with | some (.arr _ es _) => B (decide (off + n ≤ es.length)) (k (.int .i64 n)) none | _ => none
 | _, x => (lenOp P t h x).bind k

def view1K (h : Heap) (x : PV) (k : PV → Option R) : Option R :=
 match x with
 | .own _ _ _ => contentK B h x fun c => (c.1.map fun t => PV.lst t c.2).bind k
 | x => (view1 h x).bind k

def mapK {α β : Type} (f : α → (β → Option R) → Option R) : List α → (List β → Option R) → Option R
 | [], k => k []
 | x :: xs, k => f x fun y => mapK f xs fun ys => k (y :: ys)

def viewK (h : Heap) (x : PV) (k : PV → Option R) : Option R :=
 match x with
 | .agg cs => mapK (view1K B h) cs fun ys => k (.agg ys)
 | x => view1K B h x k

abbrev CallK (R : Type) := FuncId → List PV → List Blk → (PV × List Blk → Option R) → Option R

def callCoreK (CK : CallK R) (M : FuncId → Bool) (al : Option Nat) (h : Heap) (f : FuncId) (xs : List PV) (k : (PV × Heap) × Foot → Option R) : Option R :=
 (fun (kk : List PV → Option R) => if M f then kk xs else mapK (viewK B h) xs kk) fun ys =>
  (reach h (ys.flatMap refs)).bind fun ids =>
   if ys.all sh && (M f || (xs.flatMap refs).all fun b => match h[b]? with | some (.arr _ _ _) => !ids.contains b | _ => true) then
    CK f (ys.map (ren ids.idxOf)) (heapOf h ids) fun r =>
     let vids := (xs.flatMap refs).filter fun b => !ids.contains b
     let h1 := if ids.isEmpty && flatR P r.2 r.1 then h else vids.foldl freeze h
     let g := fwd ids (baseOf al h)
     let bs := r.2.map (renBlk g)
     if resFree h al (bs.drop ids.length).length && r.2.all okBlk && shR r.1 then
      k ((renR g r.1, addMany al (setMany h1 ids (bs.take ids.length)) (bs.drop ids.length)),
       (xs.flatMap refs ++ ids ++ slotIds al (bs.drop ids.length).length, (if ids.isEmpty && flatR P r.2 r.1 then [] else ids ++ vids) ++ slotIds al (bs.drop ids.length).length))
     else none
   else none

def externOpK (add : Bool) (xs : List PV) (k : PV → Option R) : Option R :=
 match xs with
 | [.int .u64 x, .int .u64 y, .int .u64 c] => B (externIn x y c) (k (externOut add x y c)) none
 | _ => none

def doOpK (CK : CallK R) (M : FuncId → Bool) (al : Option Nat) (ts : List PV) (h : Heap) (op : Op) (k : (PV × Heap) × Foot → Option R) : Option R :=
 let kf : PV × Heap → Option R := fun r => k (r, footOp al ts op)
 let kv : PV → Option R := fun v => k ((v, h), footOp al ts op)
 match op with
 | .buildSlice t len ps => buildSliceOpK B P t len (evp ts ps) al h kf
 | .load t a => loadOpK B P t h (ev ts a) kv
 | .store t a x => storeOpK B P t h (ev ts a) (ev ts x) fun h' => kf (.top, h')
 | .binOp o t x y _ => binOpK B P o t (ev ts x) (ev ts y) kv
 | .makeSlice t l c => if sameOp l c = true then makeSliceEqK B P t (ev ts l) al h kf else makeSliceOpK B P t (ev ts l) (ev ts c) al h kf
 | .mapUpdate t m ky x => mapUpdateOpK B P t h (ev ts m) (ev ts ky) (ev ts x) fun h' => kf (.top, h')
 | .slice t x lo hi mx => sliceOpK B P t h (ev ts x) (evo ts lo) (evo ts hi) (evo ts mx) kv
 | .indexAddr t x i => indexAddrOpK B P t h (ev ts x) (ev ts i) kv
 | .index t x i => indexOpK B P t (ev ts x) (ev ts i) kv
 | .call c => match c.callee with
  | .builtin .len => match evs ts c.args with
   | [x] => match c.argTypes[0]? with | some t => lenOpK B P t h x kv | none => none
   | _ => none
  | .builtin .append => match evs ts c.args with
   | [s, x] => appendOpK B P c.argTypes h s x al kf
   | _ => none
  | .builtin b => (builtinOp P b c.argTypes al h (evs ts c.args)).bind kf
  | .value f => match ev ts f with
   | .fn g caps => match externOf P g with
    | some e => externOpK B e (evs ts c.args ++ caps) fun v => k ((v, h), ([], []))
    | none => callCoreK B P CK M al h g (evs ts c.args ++ caps) k
   | _ => none
  | .invoke x name => match invokeOf P h (ev ts x) name with
   | some (g, y) => callCoreK B P CK M al h g (y :: evs ts c.args) k
   | none => none
 | op => (doOp P (fun _ _ _ => none) M al ts h op).bind kf

end
end Go.Pu
