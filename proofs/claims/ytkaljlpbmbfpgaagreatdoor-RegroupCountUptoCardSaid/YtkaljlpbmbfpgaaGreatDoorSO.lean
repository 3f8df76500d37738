/- The pure machine: the second form, its data laid out at each step. -/
import Derived.Test.YtkaljlpbmbfpgaaGreatDoorSN
set_option linter.unusedSimpArgs false
set_option linter.unusedVariables false
namespace Go.Pu

section
variable {α : Type}

/-- a number that is known -/
def fN (n : Nat) (k : Nat → α) : α :=
 match n with
 | 0 => k 0
 | n + 1 => k (n + 1)

def fB (b : Bool) (k : Bool → α) : α :=
 match b with
 | true => k true
 | false => k false

/-- a value's own form -/
def fV1 (v : PV) (k : PV → α) : α :=
 match v with
 | .top => k .top
 | .bool b => k (.bool b)
 | .int i n => k (.int i n)
 | .str s => k (.str s)
 | .agg cs => k (.agg cs)
 | .tuple vs => k (.tuple vs)
 | .nils => k .nils
 | .lst t es => k (.lst t es)
 | .all b => fN b fun b => k (.all b)
 | .own b o n => fN b fun b => k (.own b o n)
 | .new t es => k (.new t es)
 | .nilp => k .nilp
 | .ptr b o => fN b fun b => fN o fun o => k (.ptr b o)
 | .aptr b i o => fN b fun b => fN o fun o => k (.aptr b i o)
 | .eptr t cs o => fN o fun o => k (.eptr t cs o)
 | .newb t cs => k (.newb t cs)
 | .fn f cs => k (.fn f cs)
 | .nilfn => k .nilfn
 | .iface t v => k (.iface t v)
 | .nili => k .nili
 | .mp b => fN b fun b => k (.mp b)

def fL1 : List PV → (List PV → α) → α
 | [], k => k []
 | x :: xs, k => fV1 x fun x => fL1 xs fun xs => k (x :: xs)

def fV2 (v : PV) (k : PV → α) : α :=
 fV1 v fun v =>
  match v with
  | .agg cs => fL1 cs fun cs => k (.agg cs)
  | .fn f cs => fL1 cs fun cs => k (.fn f cs)
  | .iface t v => fV1 v fun v => k (.iface t v)
  | v => k v

def fL2 : List PV → (List PV → α) → α
 | [], k => k []
 | x :: xs, k => fV2 x fun x => fL2 xs fun xs => k (x :: xs)

def fV (v : PV) (k : PV → α) : α :=
 fV2 v fun v =>
  match v with
  | .tuple vs => fL2 vs fun vs => k (.tuple vs)
  | v => k v

def fL : List PV → (List PV → α) → α
 | [], k => k []
 | x :: xs, k => fV x fun x => fL xs fun xs => k (x :: xs)

def fMS (st : MS) (k : MS → α) : α :=
 match st with
 | .live => k .live
 | .out s => k (.out s)
 | .fz => k .fz

def fBlk (b : Blk) (k : Blk → α) : α :=
 match b with
 | .dead => k .dead
 | .res => k .res
 | .arr t es l => fB l fun l => k (.arr t es l)
 | .box t cs => fL2 cs fun cs => k (.box t cs)
 | .map t es st => fMS st fun st => k (.map t es st)

def fH : Heap → (Heap → α) → α
 | [], k => k []
 | x :: xs, k => fBlk x fun x => fH xs fun xs => k (x :: xs)

def fNs : List Nat → (List Nat → α) → α
 | [], k => k []
 | x :: xs, k => fN x fun x => fNs xs fun xs => k (x :: xs)

/-- one place set, the list laid out -/
def fSet : List PV → Nat → PV → (List PV → α) → α
 | [], _, _, k => k []
 | _ :: xs, 0, v, k => k (v :: xs)
 | x :: xs, n + 1, v, k => fSet xs n v fun xs => k (x :: xs)

def fPut (ts : List PV) (d : Option Tmp) (v : PV) (k : List PV → α) : α :=
 match d with
 | some d => fSet ts d v k
 | none => k ts

def fKnown (ts : List PV) (c : Operand) (b : Bool) (k : List PV → α) : α :=
 match c with
 | .tmp d => fSet ts d (.bool b) k
 | _ => k ts

@[simp] theorem fN_eq (n : Nat) (k : Nat → α) : fN n k = k n := by cases n <;> rfl
@[simp] theorem fB_eq (b : Bool) (k : Bool → α) : fB b k = k b := by cases b <;> rfl
@[simp] theorem fV1_eq (v : PV) (k : PV → α) : fV1 v k = k v := by cases v <;> simp [fV1]
@[simp] theorem fL1_eq : ∀ (l : List PV) (k : List PV → α), fL1 l k = k l
 | [], k => rfl
 | x :: xs, k => by simp [fL1, fL1_eq xs]
@[simp] theorem fV2_eq (v : PV) (k : PV → α) : fV2 v k = k v := by cases v <;> simp [fV2]
@[simp] theorem fL2_eq : ∀ (l : List PV) (k : List PV → α), fL2 l k = k l
 | [], k => rfl
 | x :: xs, k => by simp [fL2, fL2_eq xs]
@[simp] theorem fV_eq (v : PV) (k : PV → α) : fV v k = k v := by cases v <;> simp [fV]
@[simp] theorem fL_eq : ∀ (l : List PV) (k : List PV → α), fL l k = k l
 | [], k => rfl
 | x :: xs, k => by simp [fL, fL_eq xs]
@[simp] theorem fMS_eq (b : MS) (k : MS → α) : fMS b k = k b := by cases b <;> rfl
@[simp] theorem fBlk_eq (b : Blk) (k : Blk → α) : fBlk b k = k b := by cases b <;> simp [fBlk]
@[simp] theorem fH_eq : ∀ (h : Heap) (k : Heap → α), fH h k = k h
 | [], k => rfl
 | x :: xs, k => by simp [fH, fH_eq xs]
@[simp] theorem fNs_eq : ∀ (l : List Nat) (k : List Nat → α), fNs l k = k l
 | [], k => rfl
 | x :: xs, k => by simp [fNs, fNs_eq xs]
@[simp] theorem fSet_eq : ∀ (l : List PV) (n : Nat) (v : PV) (k : List PV → α), fSet l n v k = k (l.set n v)
 | [], _, _, k => rfl
 | _ :: _, 0, _, k => rfl
 | x :: xs, n + 1, v, k => by simp [fSet, fSet_eq xs]
@[simp] theorem fPut_eq (ts : List PV) (d : Option Tmp) (v : PV) (k : List PV → α) : fPut ts d v k = k (put ts d v) := by
 cases d <;> simp [fPut, put]
@[simp] theorem fKnown_eq (ts : List PV) (c : Operand) (b : Bool) (k : List PV → α) : fKnown ts c b k = k (known ts c b) := by
 cases c <;> simp [fKnown, known]
end

section
variable {R : Type} (B : Bool → Option R → Option R → Option R) (P : Program) (CK : CallK R) (M : FuncId → Bool)

def runOpsF (ops : Array Oper) : List Oper → List PV → Heap → (List PV → Heap → Option R) → Option R
 | [], ts, h, k => k ts h
 | o :: rest, ts, h, k =>
  let go (ts : List PV) : Option R := doOpK B P CK M none ts h o.op fun r => fV r.1.1 fun v => fH r.1.2 fun h => fPut ts o.dst v fun ts => runOpsF ops rest ts h k
  match o.guard with
  | none => go ts
  | some (j, want) =>
   match (ops[j]?).bind (·.dst) with
   | none => none
   | some d =>
    match ts.getD d .top with
    | .bool b =>
     B b
      (if want then fSet ts d (.bool true) go else fSet ts d (.bool true) fun ts => fPut ts o.dst (.tuple []) fun ts => runOpsF ops rest ts h k)
      (if want then fSet ts d (.bool false) fun ts => fPut ts o.dst (.tuple []) fun ts => runOpsF ops rest ts h k else fSet ts d (.bool false) go)
    | .tuple [] => fPut ts o.dst (.tuple []) fun ts => runOpsF ops rest ts h k
    | _ => none

theorem runOpsF_eq (ops : Array Oper) : ∀ (l : List Oper) (ts : List PV) (h : Heap) (k : List PV → Heap → Option R), runOpsF B P CK M ops l ts h k = runOpsK B P CK M ops l ts h k
 | [], ts, h, k => rfl
 | o :: rest, ts, h, k => by
  have ih := fun ts h k => runOpsF_eq ops rest ts h k
  unfold runOpsF runOpsK
  simp only [fV_eq, fH_eq, fPut_eq, fSet_eq, ih]
  all_goals rfl

def fFoot {α : Type} (F : Foot) (k : Foot → α) : α := fNs F.1 fun a => fNs F.2 fun b => k (a, b)

@[simp] theorem fFoot_eq {α : Type} (F : Foot) (k : Foot → α) : fFoot F k = k F := by simp [fFoot]

def runDrawF (ops : Array Oper) : List Oper → Nat → List Foot → List PV → Heap → (List PV → Heap → Option R) → Option R
 | [], _, F, ts, h, k => if dynOK ops F then k ts h else none
 | o :: rest, s, F, ts, h, k =>
  let go (ts : List PV) : Option R :=
   if alFree h (slotAt o s) then
    doOpK B P CK M (slotAt o s) ts h o.op fun r => fV r.1.1 fun v => fH r.1.2 fun h' => fPut ts o.dst v fun ts => fFoot (slotIds (slotAt o s) 1 ++ r.2.1, r.2.2) fun F1 => fN (s + slotsOf o.op) fun s' => runDrawF ops rest s' (F ++ [F1]) ts h' k
   else none
  match o.guard with
  | none => go ts
  | some (j, want) =>
   match (ops[j]?).bind (·.dst) with
   | none => none
   | some d =>
    match ts.getD d .top with
    | .bool b =>
     B b
      (if want then fSet ts d (.bool true) go else fSet ts d (.bool true) fun ts => fPut ts o.dst (.tuple []) fun ts => runDrawF ops rest (s + slotsOf o.op) (F ++ [([], [])]) ts h k)
      (if want then fSet ts d (.bool false) fun ts => fPut ts o.dst (.tuple []) fun ts => runDrawF ops rest (s + slotsOf o.op) (F ++ [([], [])]) ts h k else fSet ts d (.bool false) go)
    | .tuple [] => fPut ts o.dst (.tuple []) fun ts => runDrawF ops rest (s + slotsOf o.op) (F ++ [([], [])]) ts h k
    | _ => none

theorem runDrawF_eq (ops : Array Oper) : ∀ (l : List Oper) (s : Nat) (F : List Foot) (ts : List PV) (h : Heap) (k : List PV → Heap → Option R), runDrawF B P CK M ops l s F ts h k = runDrawK B P CK M ops l s F ts h k
 | [], s, F, ts, h, k => rfl
 | o :: rest, s, F, ts, h, k => by
  have ih := fun s F ts h k => runDrawF_eq ops rest s F ts h k
  unfold runDrawF runDrawK
  simp only [fV_eq, fH_eq, fPut_eq, fSet_eq, fFoot_eq, fN_eq, ih]
  all_goals rfl

def runF (LS : Nat → Option (Smy R)) (n kk : Nat) (live : Nat → Option (List Nat)) : Code → List PV → Heap → (Ex → List PV → Heap → Option R) → Option R
 | .skip, ts, h, k => k .normal ts h
 | .label _, ts, h, k => k .normal ts h
 | .region _ ops d, ts, h, k => if d = true then (if staticOK ops then fL ts fun ts => fH (reserve ops h) fun h' => fN h.length fun s => runDrawF B P CK M ops ops.toList s [] ts h' (k .normal) else none) else fL ts fun ts => fH h fun h => runOpsF B P CK M ops ops.toList ts h (k .normal)
 | .seq a b, ts, h, k => runF LS n kk live a ts h fun e ts' h' =>
  match e with
  | .normal => runF LS n kk live b ts' h' k
  | .exit i => k (.exit i) ts' h'
  | .ret => k .ret ts' h'
 | .cond c a b, ts, h, k =>
  match ev ts c with
  | .bool t => B t (fKnown ts c true fun ts => runF LS n kk live a ts h k) (fKnown ts c false fun ts => runF LS n kk live b ts h k)
  | _ => none
 | .block id a, ts, h, k => runF LS n kk live a ts h fun e ts' h' =>
  match e with
  | .normal => k .normal ts' h'
  | .exit i => if i = id then k .normal ts' h' else k (.exit i) ts' h'
  | .ret => k .ret ts' h'
 | .loop a, ts, h, k => match LS (rid a) with
  | some g => (cleanX P kk live (rid a) .normal ts h).bind fun c => fL c.1 fun ts => fH c.2 fun h => g ts h k
  | none => loopN (runF LS n kk live a) (cleanX P kk live (rid a)) n ts h k
 | .scope a, ts, h, k => runF LS n kk live a ts h k
 | .exit i, ts, h, k => k (.exit i) ts h
 | .ret, ts, h, k => k .ret ts h
 | _, _, _, _ => none

theorem runF_eq (LS : Nat → Option (Smy R)) (n kk : Nat) (live : Nat → Option (List Nat)) : ∀ (c : Code) (ts : List PV) (h : Heap) (k : Ex → List PV → Heap → Option R), runF B P CK M LS n kk live c ts h k = runK B P CK M LS n kk live c ts h k := by
 intro c
 induction c with
 | region id ops d => intro ts h k; simp only [runF, runK, fL_eq, fH_eq, fN_eq, runOpsF_eq, runDrawF_eq]
 | seq a b iha ihb =>
  intro ts h k
  simp only [runF, runK, iha]
  congr 1; funext e ts' h'
  cases e <;> simp only [ihb]
 | cond c a b iha ihb => intro ts h k; simp only [runF, runK, fKnown_eq, iha, ihb] <;> rfl
 | block id a ih => intro ts h k; simp only [runF, runK, ih] <;> rfl
 | loop a ih =>
  intro ts h k
  simp only [runF, runK]
  have : runF B P CK M LS n kk live a = runK B P CK M LS n kk live a := by funext ts h k; exact ih ts h k
  rw [this]
  simp only [fL_eq, fH_eq]
  all_goals rfl
 | scope a ih => intro ts h k; simp only [runF, runK, ih]
 | _ => intros <;> rfl
end

def callF {R : Type} (B : Bool → Option R → Option R → Option R) (P : Program) (X : Ext) (M : FuncId → Bool) (L : FuncId → Nat → Option (List Nat)) (LS : FuncId → Nat → Nat → Option (Smy R)) : Nat → CallK R
 | 0, _, _, _, _ => none
 | n + 1, f, xs, hc, k =>
  fL xs fun xs => fH hc fun hc =>
  match X f with
  | some g => (g xs hc).go B k
  | none =>
  match P.funcs[f]? with
  | none => none
  | some fn =>
   match fn.body with
   | none => none
   | some body =>
    runF B P (callF B P X M L LS n) M (LS f hc.length) n hc.length (L f) body (xs ++ List.replicate (fn.ntmps - xs.length) .top) hc fun e ts h =>
     match e with
     | .exit _ => none
     | _ => fL ts fun ts => fH h fun h => (finish P fn hc.length ts h).bind fun r => fV r.1 fun v => fH r.2 fun h' => k (v, h')

theorem callF_eq {R : Type} (B : Bool → Option R → Option R → Option R) (P : Program) (X : Ext) (M : FuncId → Bool) (L : FuncId → Nat → Option (List Nat)) (LS : FuncId → Nat → Nat → Option (Smy R)) : ∀ n, callF B P X M L LS n = callK B P X M L LS n
 | 0 => by funext f xs hc k <;> rfl
 | n + 1 => by
  funext f xs hc k
  have ih := callF_eq B P X M L LS n
  simp only [callF, callK, fL_eq, fH_eq, fV_eq, runF_eq, ih]
  all_goals rfl

end Go.Pu
