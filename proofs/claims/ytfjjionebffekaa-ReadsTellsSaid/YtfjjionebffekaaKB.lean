/- slices.Clone of rows. -/
import Derived.Test.YtfjjionebffekaaKA
import Derived.Test.YtfjjionebffekaaTD
set_option linter.unusedVariables false
namespace Go.Proofs.Ytfjjionebffekaa
open Go.Pu

def L0 : FuncId → Nat → Option (List Nat) := fun _ _ => none
def M0 : FuncId → Bool := fun _ => false

theorem cloneRow1 (e : List PV) (es : List (List PV)) : callK br Try.prog X0 M0 L0 noLS 10 54 [.lst 24 (e :: es)] [] (fun y => fixR Try.prog [] 0 y) =
    br (decide ((0 + (e :: es).length) * 32 ≤ 140737488355328)) (some (.all 0, [.arr 24 (e :: es) true])) none := by rw [← callF_eq]; kernel_rfl
theorem cloneRow2 : callK br Try.prog X0 M0 L0 noLS 10 54 [.nils] [] (fun y => fixR Try.prog [1000000 * (2 * 24 + 1)] 0 y) =
    some (.all 0, [.arr 24 [] true]) := by rw [← callF_eq]; kernel_rfl
theorem cloneRow3 : callK br Try.prog X0 M0 L0 noLS 10 54 [.new 24 [[]]] [] (fun y => fixR Try.prog [] 0 y) =
    some (.all 0, [.arr 24 [] true]) := by rw [← callF_eq]; kernel_rfl

theorem eCloneRow : EOK Try.prog 54 (gClone 24 32) :=
  eokClone (fun e es h => rowAt_of mixed named x0 (noLS_ok _ _ _ _) (fuel := 10) (plan := []) ((cloneRow1 e es).trans (if_pos (decide_eq_true h))))
    (rowAt_of mixed named x0 (noLS_ok _ _ _ _) (fuel := 10) (plan := [1000000 * (2 * 24 + 1)]) cloneRow2)
    (rowAt_of mixed named x0 (noLS_ok _ _ _ _) (fuel := 10) (plan := []) cloneRow3)

noncomputable abbrev XB : Ext := extT [(54, gClone 24 32)] X0
theorem xB : XOK Try.prog XB := xok1 x0 eCloneRow

end Go.Proofs.Ytfjjionebffekaa
