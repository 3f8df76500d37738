/- The pure machine: what a continuation is told. -/
import Derived.Test.YtkaljlpbmbfpgaaGreatDoorSH
set_option linter.unusedSimpArgs false
set_option linter.unusedVariables false
namespace Go.Pu

abbrev Out := Ex × List PV × Heap
def idk : Ex → List PV → Heap → Option Out := fun e ts h => some (e, ts, h)
def idk2 : List PV → Heap → Option (List PV × Heap) := fun ts h => some (ts, h)

section
variable {P : Program} {C : CallF} {M : FuncId → Bool} {R : Type}

theorem runOps_bind {ops : Array Oper} {F : List PV → Heap → Option R} : ∀ (rest : List Oper) (ts : List PV) (h : Heap), runOps P C M ops rest ts h F = (runOps P C M ops rest ts h idk2).bind fun q => F q.1 q.2
 | [], ts, h => rfl
 | o :: rest, ts, h => by
  have ih := fun ts h => runOps_bind (ops := ops) (F := F) rest ts h
  have go : ∀ ts, ((doOp P C M none ts h o.op).bind fun r => runOps P C M ops rest (put ts o.dst r.1) r.2 F) = ((doOp P C M none ts h o.op).bind fun r => runOps P C M ops rest (put ts o.dst r.1) r.2 idk2).bind fun q => F q.1 q.2 := by
   intro ts
   rw [Option.bind_assoc]
   congr 1
   funext r
   exact ih _ _
  unfold runOps
  dsimp only
  split
  ·exact go ts
  ·split
   ·rfl
   ·split
    ·split
     ·split
      ·exact go _
      ·exact ih _ _
     ·split
      ·exact ih _ _
      ·exact go _
    ·exact ih _ _
    ·rfl

theorem runDraw_bind {ops : Array Oper} {F : List PV → Heap → Option R} : ∀ (rest : List Oper) (s : Nat) (Fs : List Foot) (ts : List PV) (h : Heap), runDraw P C M ops rest s Fs ts h F = (runDraw P C M ops rest s Fs ts h idk2).bind fun q => F q.1 q.2
 | [], s, Fs, ts, h => by
  simp only [runDraw]
  split <;> rfl
 | o :: rest, s, Fs, ts, h => by
  have ih := fun s Fs ts h => runDraw_bind (ops := ops) (F := F) rest s Fs ts h
  have go : ∀ ts, ((doOpG P C M (slotAt o s) ts h o.op).bind fun r => runDraw P C M ops rest (s + slotsOf o.op) (Fs ++ [r.2]) (put ts o.dst r.1.1) r.1.2 F) =
    ((doOpG P C M (slotAt o s) ts h o.op).bind fun r => runDraw P C M ops rest (s + slotsOf o.op) (Fs ++ [r.2]) (put ts o.dst r.1.1) r.1.2 idk2).bind fun q => F q.1 q.2 := by
   intro ts
   rw [Option.bind_assoc]
   congr 1
   funext r
   exact ih _ _ _ _
  unfold runDraw
  dsimp only
  split
  ·exact go ts
  ·split
   ·rfl
   ·split
    ·split
     ·split
      ·exact go _
      ·exact ih _ _ _ _
     ·split
      ·exact ih _ _ _ _
      ·exact go _
    ·exact ih _ _ _ _
    ·rfl

theorem loopN_bind {rn : (R : Type) → List PV → Heap → (Ex → List PV → Heap → Option R) → Option R} {clean : Ex → List PV → Heap → Option (List PV × Heap)} (hr : ∀ (R : Type) ts h (F : Ex → List PV → Heap → Option R), rn R ts h F = (rn Out ts h idk).bind fun q => F q.1 q.2.1 q.2.2) {F : Ex → List PV → Heap → Option R} :
  ∀ (n : Nat) (ts : List PV) (h : Heap), loopN (rn R) clean n ts h F = (loopN (rn Out) clean n ts h idk).bind fun q => F q.1 q.2.1 q.2.2
 | 0, _, _ => rfl
 | n + 1, ts, h => by
  simp only [loopN]
  rw [Option.bind_assoc]
  congr 1
  funext c
  refine (hr R c.1 c.2 _).trans (Eq.trans ?_ (congrArg (fun z : Option Out => z.bind fun q => F q.1 q.2.1 q.2.2) (hr Out c.1 c.2 _)).symm)
  rw [Option.bind_assoc]
  congr 1
  funext q
  obtain ⟨e, ts', h'⟩ := q
  cases e with
  | normal => exact loopN_bind hr n ts' h'
  | exit i => simp only [Option.bind_assoc]; rfl
  | ret => simp only [Option.bind_assoc]; rfl

theorem run_bind {n kk : Nat} {live : Nat → Option (List Nat)} : ∀ (c : Code) (R : Type) (ts : List PV) (h : Heap) (F : Ex → List PV → Heap → Option R), run P C M n kk live c ts h F = (run P C M n kk live c ts h idk).bind fun q => F q.1 q.2.1 q.2.2 := by
 intro c
 induction c with
 | skip => intro R ts h F; rfl
 | label l => intro R ts h F; rfl
 | region id ops d =>
  intro R ts h F
  simp only [run]
  split
  ·split
   ·rw [runDraw_bind, runDraw_bind (F := idk .normal), Option.bind_assoc]
    rfl
   ·rfl
  ·rw [runOps_bind, runOps_bind (F := idk .normal), Option.bind_assoc]
   rfl
 | seq x y ihx ihy =>
  intro R ts h F
  simp only [run]
  refine (ihx R ts h _).trans (Eq.trans ?_ (congrArg (fun z : Option Out => z.bind fun q => F q.1 q.2.1 q.2.2) (ihx Out ts h _)).symm)
  rw [Option.bind_assoc]
  congr 1
  funext q
  obtain ⟨e, ts', h'⟩ := q
  cases e with
  | normal => exact ihy R ts' h' F
  | exit i => rfl
  | ret => rfl
 | cond c x y ihx ihy =>
  intro R ts h F
  simp only [run]
  split
  ·split
   ·exact ihx R ts h F
   ·exact ihy R ts h F
  ·rfl
 | block id x ih =>
  intro R ts h F
  simp only [run]
  refine (ih R ts h _).trans (Eq.trans ?_ (congrArg (fun z : Option Out => z.bind fun q => F q.1 q.2.1 q.2.2) (ih Out ts h _)).symm)
  rw [Option.bind_assoc]
  congr 1
  funext q
  obtain ⟨e, ts', h'⟩ := q
  cases e with
  | normal => rfl
  | exit i => dsimp only; split <;> rfl
  | ret => rfl
 | loop x ih =>
  intro R ts h F
  simp only [run]
  exact loopN_bind (rn := fun R => run (R := R) P C M n kk live x) (fun R ts h F => ih R ts h F) n ts h
 | scope x ih => intro R ts h F; exact ih R ts h F
 | exit i => intro R ts h F; rfl
 | ret => intro R ts h F; rfl
 | goto l => intro R ts h F; rfl
 | _ => intros; rfl

end
end Go.Pu
