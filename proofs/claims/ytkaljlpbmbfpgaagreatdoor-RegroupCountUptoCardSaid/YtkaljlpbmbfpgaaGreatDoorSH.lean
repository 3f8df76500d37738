/- The pure machine, thirty-fourth part: the second form of code and of functions. -/
import Derived.Test.YtkaljlpbmbfpgaaGreatDoorSG
set_option linter.unusedSimpArgs false
set_option linter.unusedVariables false
namespace Go.Pu

section
variable {R : Type} (B : Bool → Option R → Option R → Option R) (P : Program) (CK : CallK R) (M : FuncId → Bool)

def runOpsK (ops : Array Oper) : List Oper → List PV → Heap → (List PV → Heap → Option R) → Option R
 | [], ts, h, k => k ts h
 | o :: rest, ts, h, k =>
  let go (ts : List PV) : Option R := doOpK B P CK M none ts h o.op fun r => runOpsK ops rest (put ts o.dst r.1.1) r.1.2 k
  match o.guard with
  | none => go ts
  | some (j, want) =>
   match (ops[j]?).bind (·.dst) with
   | none => none
   | some d =>
    match ts.getD d .top with
    | .bool b =>
     B b
      (if want then go (ts.set d (.bool true)) else runOpsK ops rest (put (ts.set d (.bool true)) o.dst (.tuple [])) h k)
      (if want then runOpsK ops rest (put (ts.set d (.bool false)) o.dst (.tuple [])) h k else go (ts.set d (.bool false)))
    | .tuple [] => runOpsK ops rest (put ts o.dst (.tuple [])) h k
    | _ => none

def runDrawK (ops : Array Oper) : List Oper → Nat → List Foot → List PV → Heap → (List PV → Heap → Option R) → Option R
 | [], _, F, ts, h, k => if dynOK ops F then k ts h else none
 | o :: rest, s, F, ts, h, k =>
  let go (ts : List PV) : Option R :=
   if alFree h (slotAt o s) then
    doOpK B P CK M (slotAt o s) ts h o.op fun r => runDrawK ops rest (s + slotsOf o.op) (F ++ [(slotIds (slotAt o s) 1 ++ r.2.1, r.2.2)]) (put ts o.dst r.1.1) r.1.2 k
   else none
  match o.guard with
  | none => go ts
  | some (j, want) =>
   match (ops[j]?).bind (·.dst) with
   | none => none
   | some d =>
    match ts.getD d .top with
    | .bool b =>
     B b
      (if want then go (ts.set d (.bool true)) else runDrawK ops rest (s + slotsOf o.op) (F ++ [([], [])]) (put (ts.set d (.bool true)) o.dst (.tuple [])) h k)
      (if want then runDrawK ops rest (s + slotsOf o.op) (F ++ [([], [])]) (put (ts.set d (.bool false)) o.dst (.tuple [])) h k else go (ts.set d (.bool false)))
    | .tuple [] => runDrawK ops rest (s + slotsOf o.op) (F ++ [([], [])]) (put ts o.dst (.tuple [])) h k
    | _ => none

/-- a place whose truth is known -/
def known (ts : List PV) (c : Operand) (b : Bool) : List PV :=
 match c with
 | .tmp d => ts.set d (.bool b)
 | _ => ts

theorem known_self {ts : List PV} {c : Operand} {b : Bool} (h : ev ts c = .bool b) : known ts c b = ts := by
 cases c with
 | tmp d =>
  simp only [ev] at h
  simp only [known]
  by_cases hd : d < ts.length
  ·have : ts[d] = .bool b := by simpa [List.getD, hd] using h
   rw [← this, List.set_getElem_self]
  ·simp [List.getD, Nat.not_lt.1 hd] at h
 | const v => rfl
 | global g => rfl
 | func f => rfl

/-- what a loop tells, told once -/
abbrev Smy (R : Type) := List PV → Heap → (Ex → List PV → Heap → Option R) → Option R

def runK (LS : Nat → Option (Smy R)) (n kk : Nat) (live : Nat → Option (List Nat)) : Code → List PV → Heap → (Ex → List PV → Heap → Option R) → Option R
 | .skip, ts, h, k => k .normal ts h
 | .label _, ts, h, k => k .normal ts h
 | .region _ ops d, ts, h, k => if d = true then (if staticOK ops then runDrawK B P CK M ops ops.toList h.length [] ts (reserve ops h) (k .normal) else none) else runOpsK B P CK M ops ops.toList ts h (k .normal)
 | .seq a b, ts, h, k => runK LS n kk live a ts h fun e ts' h' =>
  match e with
  | .normal => runK LS n kk live b ts' h' k
  | .exit i => k (.exit i) ts' h'
  | .ret => k .ret ts' h'
 | .cond c a b, ts, h, k =>
  match ev ts c with
  | .bool t => B t (runK LS n kk live a (known ts c true) h k) (runK LS n kk live b (known ts c false) h k)
  | _ => none
 | .block id a, ts, h, k => runK LS n kk live a ts h fun e ts' h' =>
  match e with
  | .normal => k .normal ts' h'
  | .exit i => if i = id then k .normal ts' h' else k (.exit i) ts' h'
  | .ret => k .ret ts' h'
 | .loop a, ts, h, k => match LS (rid a) with
  | some g => (cleanX P kk live (rid a) .normal ts h).bind fun c => g c.1 c.2 k
  | none => loopN (runK LS n kk live a) (cleanX P kk live (rid a)) n ts h k
 | .scope a, ts, h, k => runK LS n kk live a ts h k
 | .exit i, ts, h, k => k (.exit i) ts h
 | .ret, ts, h, k => k .ret ts h
 | _, _, _, _ => none
end

def Tr.go {R : Type} (B : Bool → Option R → Option R → Option R) (k : PV × List Blk → Option R) : Tr → Option R
 | .fail => none
 | .ret v h => k (v, h)
 | .test b x y => B b (x.go B k) (y.go B k)

theorem Tr.go_val {R : Type} {k : PV × List Blk → Option R} {r : R} : ∀ {t : Tr}, t.go br k = some r → ∃ y, t.val = some y ∧ k y = some r
 | .fail, h => by cases h
 | .ret v hh, h => ⟨(v, hh), rfl, h⟩
 | .test b x y, h => by
  simp only [Tr.go, br_if] at h
  simp only [Tr.val]
  split at h
  ·rename_i hb; rw [if_pos hb]; exact Tr.go_val h
  ·rename_i hb; rw [if_neg hb]; exact Tr.go_val h

def callK {R : Type} (B : Bool → Option R → Option R → Option R) (P : Program) (X : Ext) (M : FuncId → Bool) (L : FuncId → Nat → Option (List Nat)) (LS : FuncId → Nat → Nat → Option (Smy R)) : Nat → CallK R
 | 0, _, _, _, _ => none
 | n + 1, f, xs, hc, k =>
  match X f with
  | some g => (g xs hc).go B k
  | none =>
  match P.funcs[f]? with
  | none => none
  | some fn =>
   match fn.body with
   | none => none
   | some body =>
    runK B P (callK B P X M L LS n) M (LS f hc.length) n hc.length (L f) body (xs ++ List.replicate (fn.ntmps - xs.length) .top) hc fun e ts h =>
     match e with
     | .exit _ => none
     | _ => (finish P fn hc.length ts h).bind k

end Go.Pu
