/- The Key program: what its functions tell, as equations of pure data: decoding as the document has it. Each theorem names its conditions. -/
import Derived.Test.YtnnogckknlgeiaaKeyDec
section
/- The Key program: how leveeref02 takes a text. -/
set_option linter.unusedVariables false
namespace Go.Proofs.Ytnnogckknlgeiaa
open Go.Pu

/-- a text that is taken, and how many bytes it took -/
def tkT : List UInt8 → List UInt8 × Nat
  | [] => ([], 0)
  | [_] => ([], 0)
  | b :: c :: r => if b = 0 then (if c = 1 then ([], 0) else (0 :: (tkT r).1, (tkT r).2 + 2)) else (b :: (tkT (c :: r)).1, (tkT (c :: r)).2 + 1)

theorem tkT_more {b c : UInt8} {r : List UInt8} : tkT (b :: c :: r) = if b = 0 then (if c = 1 then ([], 0) else (0 :: (tkT r).1, (tkT r).2 + 2)) else (b :: (tkT (c :: r)).1, (tkT (c :: r)).2 + 1) := by rw [tkT]

def z32 : Blk := .box 32 [.int .i64 0, .int .i64 0, .str ⟨#[]⟩]

def g20 {R : Type} (B : BT R) : Smy R := fun ts h k =>
  match h, ts.length, ts.getD 0 .top, ts.getD 1 .top, ts.getD 4 .top, ts.getD 7 .top with
  | [.box 32 [.int .i64 0, .int .i64 0, .str z], .box 32 [.int .i64 v, .int .i64 w, .str t]], 114, .str s, .int .i64 a, .ptr 0 0, .ptr 1 0 =>
    B (decide (s.size ≤ 99999999 ∧ 0 ≤ a ∧ a ≤ s.size ∧ t.size = 0 ∧ z.size = 0))
      (k (.exit 2) (pl 114 [(0, .str s), (1, .int .i64 (a + ((tkT (s.data.toList.drop a.toNat)).2 : Nat))), (4, .ptr 0 0), (7, .ptr 1 0)])
        [.box 32 [.int .i64 0, .int .i64 0, .str ⟨#[]⟩], .box 32 [.int .i64 v, .int .i64 w, .str (bl (tkT (s.data.toList.drop a.toNat)).1)]]) none
  | _, _, _, _, _, _ => none

abbrev LS7 {R : Type} (B : BT R) : FuncId → Nat → Nat → Option (Smy R) := lsT [(20, 0, 15, g20 B)]

end Go.Proofs.Ytnnogckknlgeiaa
end

section
/- Equations: what the machine prints. -/
set_option linter.unusedVariables false
namespace Go.Proofs.Ytnnogckknlgeiaa
open Go.Pu


set_option maxRecDepth 100000 in
theorem ev20 {R : Type} (n : Nat) (s : ByteArray) (a : Int) (k : PV × Heap → Option R) :
  callK br Try.prog X6 M0 L3 (LS7 br) (n+24) 20 [.str s, .int .i64 a] [] k =
  br (decide ((0 : Int) ≤ a ∧ a < (↑(ByteArray.size s) : Int))) (br (IntKind.wrap IntKind.i64 (IntKind.wrap IntKind.i64 (↑(UInt8.toNat (List.getD (Array.toList (ByteArray.data s)) (Int.toNat a) (0 : UInt8))) : Int) - (1 : Int)) == (1 : Int)) (br (decide (IntKind.wrap IntKind.i64 (a + (1 : Int)) < (↑(ByteArray.size s) : Int))) (br (decide ((0 : Int) ≤ IntKind.wrap IntKind.i64 (a + (1 : Int)) ∧ IntKind.wrap IntKind.i64 (a + (1 : Int)) < (↑(ByteArray.size s) : Int))) (br (IntKind.wrap IntKind.i64 (IntKind.wrap IntKind.i64 (↑(UInt8.toNat (List.getD (Array.toList (ByteArray.data s)) (Int.toNat a) (0 : UInt8))) : Int) - (1 : Int)) == (2 : Int)) (br (decide (IntKind.wrap IntKind.i64 (IntKind.wrap IntKind.i64 (IntKind.wrap IntKind.i64 (a + (1 : Int)) + (1 : Int)) + (8 : Int)) ≤ (↑(ByteArray.size s) : Int))) (br (decide ((0 : Int) ≤ IntKind.wrap IntKind.i64 (IntKind.wrap IntKind.i64 (IntKind.wrap IntKind.i64 (a + (1 : Int)) + (1 : Int)) + (0 : Int)) ∧ IntKind.wrap IntKind.i64 (IntKind.wrap IntKind.i64 (IntKind.wrap IntKind.i64 (a + (1 : Int)) + (1 : Int)) + (0 : Int)) < (↑(ByteArray.size s) : Int))) (br (decide ((0 : Int) ≤ IntKind.wrap IntKind.i64 (IntKind.wrap IntKind.i64 (IntKind.wrap IntKind.i64 (a + (1 : Int)) + (1 : Int)) + (1 : Int)) ∧ IntKind.wrap IntKind.i64 (IntKind.wrap IntKind.i64 (IntKind.wrap IntKind.i64 (a + (1 : Int)) + (1 : Int)) + (1 : Int)) < (↑(ByteArray.size s) : Int))) (br (decide ((0 : Int) ≤ IntKind.wrap IntKind.i64 (IntKind.wrap IntKind.i64 (IntKind.wrap IntKind.i64 (a + (1 : Int)) + (1 : Int)) + (2 : Int)) ∧ IntKind.wrap IntKind.i64 (IntKind.wrap IntKind.i64 (IntKind.wrap IntKind.i64 (a + (1 : Int)) + (1 : Int)) + (2 : Int)) < (↑(ByteArray.size s) : Int))) (br (decide ((0 : Int) ≤ IntKind.wrap IntKind.i64 (IntKind.wrap IntKind.i64 (IntKind.wrap IntKind.i64 (a + (1 : Int)) + (1 : Int)) + (3 : Int)) ∧ IntKind.wrap IntKind.i64 (IntKind.wrap IntKind.i64 (IntKind.wrap IntKind.i64 (a + (1 : Int)) + (1 : Int)) + (3 : Int)) < (↑(ByteArray.size s) : Int))) (br (decide ((0 : Int) ≤ IntKind.wrap IntKind.i64 (IntKind.wrap IntKind.i64 (IntKind.wrap IntKind.i64 (a + (1 : Int)) + (1 : Int)) + (4 : Int)) ∧ IntKind.wrap IntKind.i64 (IntKind.wrap IntKind.i64 (IntKind.wrap IntKind.i64 (a + (1 : Int)) + (1 : Int)) + (4 : Int)) < (↑(ByteArray.size s) : Int))) (br (decide ((0 : Int) ≤ IntKind.wrap IntKind.i64 (IntKind.wrap IntKind.i64 (IntKind.wrap IntKind.i64 (a + (1 : Int)) + (1 : Int)) + (5 : Int)) ∧ IntKind.wrap IntKind.i64 (IntKind.wrap IntKind.i64 (IntKind.wrap IntKind.i64 (a + (1 : Int)) + (1 : Int)) + (5 : Int)) < (↑(ByteArray.size s) : Int))) (br (decide ((0 : Int) ≤ IntKind.wrap IntKind.i64 (IntKind.wrap IntKind.i64 (IntKind.wrap IntKind.i64 (a + (1 : Int)) + (1 : Int)) + (6 : Int)) ∧ IntKind.wrap IntKind.i64 (IntKind.wrap IntKind.i64 (IntKind.wrap IntKind.i64 (a + (1 : Int)) + (1 : Int)) + (6 : Int)) < (↑(ByteArray.size s) : Int))) (br (decide ((0 : Int) ≤ IntKind.wrap IntKind.i64 (IntKind.wrap IntKind.i64 (IntKind.wrap IntKind.i64 (a + (1 : Int)) + (1 : Int)) + (7 : Int)) ∧ IntKind.wrap IntKind.i64 (IntKind.wrap IntKind.i64 (IntKind.wrap IntKind.i64 (a + (1 : Int)) + (1 : Int)) + (7 : Int)) < (↑(ByteArray.size s) : Int))) (br (IntKind.wrap IntKind.i64 (IntKind.wrap IntKind.i64 (↑(UInt8.toNat (List.getD (Array.toList (ByteArray.data s)) (Int.toNat a) (0 : UInt8))) : Int) - (1 : Int)) == (3 : Int)) (br (decide (ByteArray.size s ≤ 99999999 ∧ (0 : Int) ≤ IntKind.wrap IntKind.i64 (IntKind.wrap IntKind.i64 (IntKind.wrap IntKind.i64 (a + (1 : Int)) + (1 : Int)) + (8 : Int)) ∧ IntKind.wrap IntKind.i64 (IntKind.wrap IntKind.i64 (IntKind.wrap IntKind.i64 (a + (1 : Int)) + (1 : Int)) + (8 : Int)) ≤ (↑(ByteArray.size s) : Int) ∧ 0 = 0 ∧ 0 = 0)) (br (mayV (IntKind.wrap IntKind.i64 (IntKind.wrap IntKind.i64 (↑(UInt8.toNat (List.getD (Array.toList (ByteArray.data s)) (Int.toNat a) (0 : UInt8))) : Int) - (1 : Int))) (IntKind.wrap IntKind.i64 (IntKind.wrap IntKind.u64 (IntKind.wrap IntKind.u64 (IntKind.wrap IntKind.u64 ((256 : Int) * IntKind.wrap IntKind.u64 (IntKind.wrap IntKind.u64 ((256 : Int) * IntKind.wrap IntKind.u64 (IntKind.wrap IntKind.u64 ((256 : Int) * IntKind.wrap IntKind.u64 (IntKind.wrap IntKind.u64 ((256 : Int) * IntKind.wrap IntKind.u64 (IntKind.wrap IntKind.u64 ((256 : Int) * IntKind.wrap IntKind.u64 (IntKind.wrap IntKind.u64 ((256 : Int) * IntKind.wrap IntKind.u64 (IntKind.wrap IntKind.u64 ((256 : Int) * IntKind.wrap IntKind.u64 ((0 : Int) + IntKind.wrap IntKind.u64 (↑(UInt8.toNat (List.getD (Array.toList (ByteArray.data s)) (Int.toNat (IntKind.wrap IntKind.i64 (IntKind.wrap IntKind.i64 (IntKind.wrap IntKind.i64 (a + (1 : Int)) + (1 : Int)) + (0 : Int)))) (0 : UInt8))) : Int))) + IntKind.wrap IntKind.u64 (↑(UInt8.toNat (List.getD (Array.toList (ByteArray.data s)) (Int.toNat (IntKind.wrap IntKind.i64 (IntKind.wrap IntKind.i64 (IntKind.wrap IntKind.i64 (a + (1 : Int)) + (1 : Int)) + (1 : Int)))) (0 : UInt8))) : Int))) + IntKind.wrap IntKind.u64 (↑(UInt8.toNat (List.getD (Array.toList (ByteArray.data s)) (Int.toNat (IntKind.wrap IntKind.i64 (IntKind.wrap IntKind.i64 (IntKind.wrap IntKind.i64 (a + (1 : Int)) + (1 : Int)) + (2 : Int)))) (0 : UInt8))) : Int))) + IntKind.wrap IntKind.u64 (↑(UInt8.toNat (List.getD (Array.toList (ByteArray.data s)) (Int.toNat (IntKind.wrap IntKind.i64 (IntKind.wrap IntKind.i64 (IntKind.wrap IntKind.i64 (a + (1 : Int)) + (1 : Int)) + (3 : Int)))) (0 : UInt8))) : Int))) + IntKind.wrap IntKind.u64 (↑(UInt8.toNat (List.getD (Array.toList (ByteArray.data s)) (Int.toNat (IntKind.wrap IntKind.i64 (IntKind.wrap IntKind.i64 (IntKind.wrap IntKind.i64 (a + (1 : Int)) + (1 : Int)) + (4 : Int)))) (0 : UInt8))) : Int))) + IntKind.wrap IntKind.u64 (↑(UInt8.toNat (List.getD (Array.toList (ByteArray.data s)) (Int.toNat (IntKind.wrap IntKind.i64 (IntKind.wrap IntKind.i64 (IntKind.wrap IntKind.i64 (a + (1 : Int)) + (1 : Int)) + (5 : Int)))) (0 : UInt8))) : Int))) + IntKind.wrap IntKind.u64 (↑(UInt8.toNat (List.getD (Array.toList (ByteArray.data s)) (Int.toNat (IntKind.wrap IntKind.i64 (IntKind.wrap IntKind.i64 (IntKind.wrap IntKind.i64 (a + (1 : Int)) + (1 : Int)) + (6 : Int)))) (0 : UInt8))) : Int))) + IntKind.wrap IntKind.u64 (↑(UInt8.toNat (List.getD (Array.toList (ByteArray.data s)) (Int.toNat (IntKind.wrap IntKind.i64 (IntKind.wrap IntKind.i64 (IntKind.wrap IntKind.i64 (a + (1 : Int)) + (1 : Int)) + (7 : Int)))) (0 : UInt8))) : Int)) - (9223372036854775808 : Int)))) (bl (Prod.fst (tkT (List.drop (Int.toNat (IntKind.wrap IntKind.i64 (IntKind.wrap IntKind.i64 (IntKind.wrap IntKind.i64 (a + (1 : Int)) + (1 : Int)) + (8 : Int)))) (Array.toList (ByteArray.data s))))))) (k (PV.tuple [PV.agg [PV.int IntKind.i64 (IntKind.wrap IntKind.i64 (IntKind.wrap IntKind.i64 (↑(UInt8.toNat (List.getD (Array.toList (ByteArray.data s)) (Int.toNat a) (0 : UInt8))) : Int) - (1 : Int))), PV.int IntKind.i64 (IntKind.wrap IntKind.i64 (IntKind.wrap IntKind.u64 (IntKind.wrap IntKind.u64 (IntKind.wrap IntKind.u64 ((256 : Int) * IntKind.wrap IntKind.u64 (IntKind.wrap IntKind.u64 ((256 : Int) * IntKind.wrap IntKind.u64 (IntKind.wrap IntKind.u64 ((256 : Int) * IntKind.wrap IntKind.u64 (IntKind.wrap IntKind.u64 ((256 : Int) * IntKind.wrap IntKind.u64 (IntKind.wrap IntKind.u64 ((256 : Int) * IntKind.wrap IntKind.u64 (IntKind.wrap IntKind.u64 ((256 : Int) * IntKind.wrap IntKind.u64 (IntKind.wrap IntKind.u64 ((256 : Int) * IntKind.wrap IntKind.u64 ((0 : Int) + IntKind.wrap IntKind.u64 (↑(UInt8.toNat (List.getD (Array.toList (ByteArray.data s)) (Int.toNat (IntKind.wrap IntKind.i64 (IntKind.wrap IntKind.i64 (IntKind.wrap IntKind.i64 (a + (1 : Int)) + (1 : Int)) + (0 : Int)))) (0 : UInt8))) : Int))) + IntKind.wrap IntKind.u64 (↑(UInt8.toNat (List.getD (Array.toList (ByteArray.data s)) (Int.toNat (IntKind.wrap IntKind.i64 (IntKind.wrap IntKind.i64 (IntKind.wrap IntKind.i64 (a + (1 : Int)) + (1 : Int)) + (1 : Int)))) (0 : UInt8))) : Int))) + IntKind.wrap IntKind.u64 (↑(UInt8.toNat (List.getD (Array.toList (ByteArray.data s)) (Int.toNat (IntKind.wrap IntKind.i64 (IntKind.wrap IntKind.i64 (IntKind.wrap IntKind.i64 (a + (1 : Int)) + (1 : Int)) + (2 : Int)))) (0 : UInt8))) : Int))) + IntKind.wrap IntKind.u64 (↑(UInt8.toNat (List.getD (Array.toList (ByteArray.data s)) (Int.toNat (IntKind.wrap IntKind.i64 (IntKind.wrap IntKind.i64 (IntKind.wrap IntKind.i64 (a + (1 : Int)) + (1 : Int)) + (3 : Int)))) (0 : UInt8))) : Int))) + IntKind.wrap IntKind.u64 (↑(UInt8.toNat (List.getD (Array.toList (ByteArray.data s)) (Int.toNat (IntKind.wrap IntKind.i64 (IntKind.wrap IntKind.i64 (IntKind.wrap IntKind.i64 (a + (1 : Int)) + (1 : Int)) + (4 : Int)))) (0 : UInt8))) : Int))) + IntKind.wrap IntKind.u64 (↑(UInt8.toNat (List.getD (Array.toList (ByteArray.data s)) (Int.toNat (IntKind.wrap IntKind.i64 (IntKind.wrap IntKind.i64 (IntKind.wrap IntKind.i64 (a + (1 : Int)) + (1 : Int)) + (5 : Int)))) (0 : UInt8))) : Int))) + IntKind.wrap IntKind.u64 (↑(UInt8.toNat (List.getD (Array.toList (ByteArray.data s)) (Int.toNat (IntKind.wrap IntKind.i64 (IntKind.wrap IntKind.i64 (IntKind.wrap IntKind.i64 (a + (1 : Int)) + (1 : Int)) + (6 : Int)))) (0 : UInt8))) : Int))) + IntKind.wrap IntKind.u64 (↑(UInt8.toNat (List.getD (Array.toList (ByteArray.data s)) (Int.toNat (IntKind.wrap IntKind.i64 (IntKind.wrap IntKind.i64 (IntKind.wrap IntKind.i64 (a + (1 : Int)) + (1 : Int)) + (7 : Int)))) (0 : UInt8))) : Int)) - (9223372036854775808 : Int)))), PV.str (bl (Prod.fst (tkT (List.drop (Int.toNat (IntKind.wrap IntKind.i64 (IntKind.wrap IntKind.i64 (IntKind.wrap IntKind.i64 (a + (1 : Int)) + (1 : Int)) + (8 : Int)))) (Array.toList (ByteArray.data s))))))], PV.int IntKind.i64 (IntKind.wrap IntKind.i64 (IntKind.wrap IntKind.i64 (IntKind.wrap IntKind.i64 (IntKind.wrap IntKind.i64 (a + (1 : Int)) + (1 : Int)) + (8 : Int)) + (↑(Prod.snd (tkT (List.drop (Int.toNat (IntKind.wrap IntKind.i64 (IntKind.wrap IntKind.i64 (IntKind.wrap IntKind.i64 (a + (1 : Int)) + (1 : Int)) + (8 : Int)))) (Array.toList (ByteArray.data s))))) : Int) + (2 : Int))), PV.bool (decide (IntKind.wrap IntKind.i64 (IntKind.wrap IntKind.i64 (IntKind.wrap IntKind.i64 (IntKind.wrap IntKind.i64 (a + (1 : Int)) + (1 : Int)) + (8 : Int)) + (↑(Prod.snd (tkT (List.drop (Int.toNat (IntKind.wrap IntKind.i64 (IntKind.wrap IntKind.i64 (IntKind.wrap IntKind.i64 (a + (1 : Int)) + (1 : Int)) + (8 : Int)))) (Array.toList (ByteArray.data s))))) : Int) + (2 : Int)) ≤ (↑(ByteArray.size s) : Int)))], [])) (k (PV.tuple [PV.agg [PV.int IntKind.i64 (IntKind.wrap IntKind.i64 (IntKind.wrap IntKind.i64 (↑(UInt8.toNat (List.getD (Array.toList (ByteArray.data s)) (Int.toNat a) (0 : UInt8))) : Int) - (1 : Int))), PV.int IntKind.i64 (IntKind.wrap IntKind.i64 (IntKind.wrap IntKind.u64 (IntKind.wrap IntKind.u64 (IntKind.wrap IntKind.u64 ((256 : Int) * IntKind.wrap IntKind.u64 (IntKind.wrap IntKind.u64 ((256 : Int) * IntKind.wrap IntKind.u64 (IntKind.wrap IntKind.u64 ((256 : Int) * IntKind.wrap IntKind.u64 (IntKind.wrap IntKind.u64 ((256 : Int) * IntKind.wrap IntKind.u64 (IntKind.wrap IntKind.u64 ((256 : Int) * IntKind.wrap IntKind.u64 (IntKind.wrap IntKind.u64 ((256 : Int) * IntKind.wrap IntKind.u64 (IntKind.wrap IntKind.u64 ((256 : Int) * IntKind.wrap IntKind.u64 ((0 : Int) + IntKind.wrap IntKind.u64 (↑(UInt8.toNat (List.getD (Array.toList (ByteArray.data s)) (Int.toNat (IntKind.wrap IntKind.i64 (IntKind.wrap IntKind.i64 (IntKind.wrap IntKind.i64 (a + (1 : Int)) + (1 : Int)) + (0 : Int)))) (0 : UInt8))) : Int))) + IntKind.wrap IntKind.u64 (↑(UInt8.toNat (List.getD (Array.toList (ByteArray.data s)) (Int.toNat (IntKind.wrap IntKind.i64 (IntKind.wrap IntKind.i64 (IntKind.wrap IntKind.i64 (a + (1 : Int)) + (1 : Int)) + (1 : Int)))) (0 : UInt8))) : Int))) + IntKind.wrap IntKind.u64 (↑(UInt8.toNat (List.getD (Array.toList (ByteArray.data s)) (Int.toNat (IntKind.wrap IntKind.i64 (IntKind.wrap IntKind.i64 (IntKind.wrap IntKind.i64 (a + (1 : Int)) + (1 : Int)) + (2 : Int)))) (0 : UInt8))) : Int))) + IntKind.wrap IntKind.u64 (↑(UInt8.toNat (List.getD (Array.toList (ByteArray.data s)) (Int.toNat (IntKind.wrap IntKind.i64 (IntKind.wrap IntKind.i64 (IntKind.wrap IntKind.i64 (a + (1 : Int)) + (1 : Int)) + (3 : Int)))) (0 : UInt8))) : Int))) + IntKind.wrap IntKind.u64 (↑(UInt8.toNat (List.getD (Array.toList (ByteArray.data s)) (Int.toNat (IntKind.wrap IntKind.i64 (IntKind.wrap IntKind.i64 (IntKind.wrap IntKind.i64 (a + (1 : Int)) + (1 : Int)) + (4 : Int)))) (0 : UInt8))) : Int))) + IntKind.wrap IntKind.u64 (↑(UInt8.toNat (List.getD (Array.toList (ByteArray.data s)) (Int.toNat (IntKind.wrap IntKind.i64 (IntKind.wrap IntKind.i64 (IntKind.wrap IntKind.i64 (a + (1 : Int)) + (1 : Int)) + (5 : Int)))) (0 : UInt8))) : Int))) + IntKind.wrap IntKind.u64 (↑(UInt8.toNat (List.getD (Array.toList (ByteArray.data s)) (Int.toNat (IntKind.wrap IntKind.i64 (IntKind.wrap IntKind.i64 (IntKind.wrap IntKind.i64 (a + (1 : Int)) + (1 : Int)) + (6 : Int)))) (0 : UInt8))) : Int))) + IntKind.wrap IntKind.u64 (↑(UInt8.toNat (List.getD (Array.toList (ByteArray.data s)) (Int.toNat (IntKind.wrap IntKind.i64 (IntKind.wrap IntKind.i64 (IntKind.wrap IntKind.i64 (a + (1 : Int)) + (1 : Int)) + (7 : Int)))) (0 : UInt8))) : Int)) - (9223372036854775808 : Int)))), PV.str (bl (Prod.fst (tkT (List.drop (Int.toNat (IntKind.wrap IntKind.i64 (IntKind.wrap IntKind.i64 (IntKind.wrap IntKind.i64 (a + (1 : Int)) + (1 : Int)) + (8 : Int)))) (Array.toList (ByteArray.data s))))))], PV.int IntKind.i64 (IntKind.wrap IntKind.i64 (IntKind.wrap IntKind.i64 (IntKind.wrap IntKind.i64 (IntKind.wrap IntKind.i64 (a + (1 : Int)) + (1 : Int)) + (8 : Int)) + (↑(Prod.snd (tkT (List.drop (Int.toNat (IntKind.wrap IntKind.i64 (IntKind.wrap IntKind.i64 (IntKind.wrap IntKind.i64 (a + (1 : Int)) + (1 : Int)) + (8 : Int)))) (Array.toList (ByteArray.data s))))) : Int) + (2 : Int))), PV.bool false], []))) none) (br (mayV (IntKind.wrap IntKind.i64 (IntKind.wrap IntKind.i64 (↑(UInt8.toNat (List.getD (Array.toList (ByteArray.data s)) (Int.toNat a) (0 : UInt8))) : Int) - (1 : Int))) (IntKind.wrap IntKind.i64 (IntKind.wrap IntKind.u64 (IntKind.wrap IntKind.u64 (IntKind.wrap IntKind.u64 ((256 : Int) * IntKind.wrap IntKind.u64 (IntKind.wrap IntKind.u64 ((256 : Int) * IntKind.wrap IntKind.u64 (IntKind.wrap IntKind.u64 ((256 : Int) * IntKind.wrap IntKind.u64 (IntKind.wrap IntKind.u64 ((256 : Int) * IntKind.wrap IntKind.u64 (IntKind.wrap IntKind.u64 ((256 : Int) * IntKind.wrap IntKind.u64 (IntKind.wrap IntKind.u64 ((256 : Int) * IntKind.wrap IntKind.u64 (IntKind.wrap IntKind.u64 ((256 : Int) * IntKind.wrap IntKind.u64 ((0 : Int) + IntKind.wrap IntKind.u64 (↑(UInt8.toNat (List.getD (Array.toList (ByteArray.data s)) (Int.toNat (IntKind.wrap IntKind.i64 (IntKind.wrap IntKind.i64 (IntKind.wrap IntKind.i64 (a + (1 : Int)) + (1 : Int)) + (0 : Int)))) (0 : UInt8))) : Int))) + IntKind.wrap IntKind.u64 (↑(UInt8.toNat (List.getD (Array.toList (ByteArray.data s)) (Int.toNat (IntKind.wrap IntKind.i64 (IntKind.wrap IntKind.i64 (IntKind.wrap IntKind.i64 (a + (1 : Int)) + (1 : Int)) + (1 : Int)))) (0 : UInt8))) : Int))) + IntKind.wrap IntKind.u64 (↑(UInt8.toNat (List.getD (Array.toList (ByteArray.data s)) (Int.toNat (IntKind.wrap IntKind.i64 (IntKind.wrap IntKind.i64 (IntKind.wrap IntKind.i64 (a + (1 : Int)) + (1 : Int)) + (2 : Int)))) (0 : UInt8))) : Int))) + IntKind.wrap IntKind.u64 (↑(UInt8.toNat (List.getD (Array.toList (ByteArray.data s)) (Int.toNat (IntKind.wrap IntKind.i64 (IntKind.wrap IntKind.i64 (IntKind.wrap IntKind.i64 (a + (1 : Int)) + (1 : Int)) + (3 : Int)))) (0 : UInt8))) : Int))) + IntKind.wrap IntKind.u64 (↑(UInt8.toNat (List.getD (Array.toList (ByteArray.data s)) (Int.toNat (IntKind.wrap IntKind.i64 (IntKind.wrap IntKind.i64 (IntKind.wrap IntKind.i64 (a + (1 : Int)) + (1 : Int)) + (4 : Int)))) (0 : UInt8))) : Int))) + IntKind.wrap IntKind.u64 (↑(UInt8.toNat (List.getD (Array.toList (ByteArray.data s)) (Int.toNat (IntKind.wrap IntKind.i64 (IntKind.wrap IntKind.i64 (IntKind.wrap IntKind.i64 (a + (1 : Int)) + (1 : Int)) + (5 : Int)))) (0 : UInt8))) : Int))) + IntKind.wrap IntKind.u64 (↑(UInt8.toNat (List.getD (Array.toList (ByteArray.data s)) (Int.toNat (IntKind.wrap IntKind.i64 (IntKind.wrap IntKind.i64 (IntKind.wrap IntKind.i64 (a + (1 : Int)) + (1 : Int)) + (6 : Int)))) (0 : UInt8))) : Int))) + IntKind.wrap IntKind.u64 (↑(UInt8.toNat (List.getD (Array.toList (ByteArray.data s)) (Int.toNat (IntKind.wrap IntKind.i64 (IntKind.wrap IntKind.i64 (IntKind.wrap IntKind.i64 (a + (1 : Int)) + (1 : Int)) + (7 : Int)))) (0 : UInt8))) : Int)) - (9223372036854775808 : Int)))) { data := #[] }) (k (PV.tuple [PV.agg [PV.int IntKind.i64 (IntKind.wrap IntKind.i64 (IntKind.wrap IntKind.i64 (↑(UInt8.toNat (List.getD (Array.toList (ByteArray.data s)) (Int.toNat a) (0 : UInt8))) : Int) - (1 : Int))), PV.int IntKind.i64 (IntKind.wrap IntKind.i64 (IntKind.wrap IntKind.u64 (IntKind.wrap IntKind.u64 (IntKind.wrap IntKind.u64 ((256 : Int) * IntKind.wrap IntKind.u64 (IntKind.wrap IntKind.u64 ((256 : Int) * IntKind.wrap IntKind.u64 (IntKind.wrap IntKind.u64 ((256 : Int) * IntKind.wrap IntKind.u64 (IntKind.wrap IntKind.u64 ((256 : Int) * IntKind.wrap IntKind.u64 (IntKind.wrap IntKind.u64 ((256 : Int) * IntKind.wrap IntKind.u64 (IntKind.wrap IntKind.u64 ((256 : Int) * IntKind.wrap IntKind.u64 (IntKind.wrap IntKind.u64 ((256 : Int) * IntKind.wrap IntKind.u64 ((0 : Int) + IntKind.wrap IntKind.u64 (↑(UInt8.toNat (List.getD (Array.toList (ByteArray.data s)) (Int.toNat (IntKind.wrap IntKind.i64 (IntKind.wrap IntKind.i64 (IntKind.wrap IntKind.i64 (a + (1 : Int)) + (1 : Int)) + (0 : Int)))) (0 : UInt8))) : Int))) + IntKind.wrap IntKind.u64 (↑(UInt8.toNat (List.getD (Array.toList (ByteArray.data s)) (Int.toNat (IntKind.wrap IntKind.i64 (IntKind.wrap IntKind.i64 (IntKind.wrap IntKind.i64 (a + (1 : Int)) + (1 : Int)) + (1 : Int)))) (0 : UInt8))) : Int))) + IntKind.wrap IntKind.u64 (↑(UInt8.toNat (List.getD (Array.toList (ByteArray.data s)) (Int.toNat (IntKind.wrap IntKind.i64 (IntKind.wrap IntKind.i64 (IntKind.wrap IntKind.i64 (a + (1 : Int)) + (1 : Int)) + (2 : Int)))) (0 : UInt8))) : Int))) + IntKind.wrap IntKind.u64 (↑(UInt8.toNat (List.getD (Array.toList (ByteArray.data s)) (Int.toNat (IntKind.wrap IntKind.i64 (IntKind.wrap IntKind.i64 (IntKind.wrap IntKind.i64 (a + (1 : Int)) + (1 : Int)) + (3 : Int)))) (0 : UInt8))) : Int))) + IntKind.wrap IntKind.u64 (↑(UInt8.toNat (List.getD (Array.toList (ByteArray.data s)) (Int.toNat (IntKind.wrap IntKind.i64 (IntKind.wrap IntKind.i64 (IntKind.wrap IntKind.i64 (a + (1 : Int)) + (1 : Int)) + (4 : Int)))) (0 : UInt8))) : Int))) + IntKind.wrap IntKind.u64 (↑(UInt8.toNat (List.getD (Array.toList (ByteArray.data s)) (Int.toNat (IntKind.wrap IntKind.i64 (IntKind.wrap IntKind.i64 (IntKind.wrap IntKind.i64 (a + (1 : Int)) + (1 : Int)) + (5 : Int)))) (0 : UInt8))) : Int))) + IntKind.wrap IntKind.u64 (↑(UInt8.toNat (List.getD (Array.toList (ByteArray.data s)) (Int.toNat (IntKind.wrap IntKind.i64 (IntKind.wrap IntKind.i64 (IntKind.wrap IntKind.i64 (a + (1 : Int)) + (1 : Int)) + (6 : Int)))) (0 : UInt8))) : Int))) + IntKind.wrap IntKind.u64 (↑(UInt8.toNat (List.getD (Array.toList (ByteArray.data s)) (Int.toNat (IntKind.wrap IntKind.i64 (IntKind.wrap IntKind.i64 (IntKind.wrap IntKind.i64 (a + (1 : Int)) + (1 : Int)) + (7 : Int)))) (0 : UInt8))) : Int)) - (9223372036854775808 : Int)))), PV.str { data := #[] }], PV.int IntKind.i64 (IntKind.wrap IntKind.i64 (IntKind.wrap IntKind.i64 (IntKind.wrap IntKind.i64 (a + (1 : Int)) + (1 : Int)) + (8 : Int))), PV.bool (decide (IntKind.wrap IntKind.i64 (IntKind.wrap IntKind.i64 (IntKind.wrap IntKind.i64 (a + (1 : Int)) + (1 : Int)) + (8 : Int)) ≤ (↑(ByteArray.size s) : Int)))], [])) (k (PV.tuple [PV.agg [PV.int IntKind.i64 (IntKind.wrap IntKind.i64 (IntKind.wrap IntKind.i64 (↑(UInt8.toNat (List.getD (Array.toList (ByteArray.data s)) (Int.toNat a) (0 : UInt8))) : Int) - (1 : Int))), PV.int IntKind.i64 (IntKind.wrap IntKind.i64 (IntKind.wrap IntKind.u64 (IntKind.wrap IntKind.u64 (IntKind.wrap IntKind.u64 ((256 : Int) * IntKind.wrap IntKind.u64 (IntKind.wrap IntKind.u64 ((256 : Int) * IntKind.wrap IntKind.u64 (IntKind.wrap IntKind.u64 ((256 : Int) * IntKind.wrap IntKind.u64 (IntKind.wrap IntKind.u64 ((256 : Int) * IntKind.wrap IntKind.u64 (IntKind.wrap IntKind.u64 ((256 : Int) * IntKind.wrap IntKind.u64 (IntKind.wrap IntKind.u64 ((256 : Int) * IntKind.wrap IntKind.u64 (IntKind.wrap IntKind.u64 ((256 : Int) * IntKind.wrap IntKind.u64 ((0 : Int) + IntKind.wrap IntKind.u64 (↑(UInt8.toNat (List.getD (Array.toList (ByteArray.data s)) (Int.toNat (IntKind.wrap IntKind.i64 (IntKind.wrap IntKind.i64 (IntKind.wrap IntKind.i64 (a + (1 : Int)) + (1 : Int)) + (0 : Int)))) (0 : UInt8))) : Int))) + IntKind.wrap IntKind.u64 (↑(UInt8.toNat (List.getD (Array.toList (ByteArray.data s)) (Int.toNat (IntKind.wrap IntKind.i64 (IntKind.wrap IntKind.i64 (IntKind.wrap IntKind.i64 (a + (1 : Int)) + (1 : Int)) + (1 : Int)))) (0 : UInt8))) : Int))) + IntKind.wrap IntKind.u64 (↑(UInt8.toNat (List.getD (Array.toList (ByteArray.data s)) (Int.toNat (IntKind.wrap IntKind.i64 (IntKind.wrap IntKind.i64 (IntKind.wrap IntKind.i64 (a + (1 : Int)) + (1 : Int)) + (2 : Int)))) (0 : UInt8))) : Int))) + IntKind.wrap IntKind.u64 (↑(UInt8.toNat (List.getD (Array.toList (ByteArray.data s)) (Int.toNat (IntKind.wrap IntKind.i64 (IntKind.wrap IntKind.i64 (IntKind.wrap IntKind.i64 (a + (1 : Int)) + (1 : Int)) + (3 : Int)))) (0 : UInt8))) : Int))) + IntKind.wrap IntKind.u64 (↑(UInt8.toNat (List.getD (Array.toList (ByteArray.data s)) (Int.toNat (IntKind.wrap IntKind.i64 (IntKind.wrap IntKind.i64 (IntKind.wrap IntKind.i64 (a + (1 : Int)) + (1 : Int)) + (4 : Int)))) (0 : UInt8))) : Int))) + IntKind.wrap IntKind.u64 (↑(UInt8.toNat (List.getD (Array.toList (ByteArray.data s)) (Int.toNat (IntKind.wrap IntKind.i64 (IntKind.wrap IntKind.i64 (IntKind.wrap IntKind.i64 (a + (1 : Int)) + (1 : Int)) + (5 : Int)))) (0 : UInt8))) : Int))) + IntKind.wrap IntKind.u64 (↑(UInt8.toNat (List.getD (Array.toList (ByteArray.data s)) (Int.toNat (IntKind.wrap IntKind.i64 (IntKind.wrap IntKind.i64 (IntKind.wrap IntKind.i64 (a + (1 : Int)) + (1 : Int)) + (6 : Int)))) (0 : UInt8))) : Int))) + IntKind.wrap IntKind.u64 (↑(UInt8.toNat (List.getD (Array.toList (ByteArray.data s)) (Int.toNat (IntKind.wrap IntKind.i64 (IntKind.wrap IntKind.i64 (IntKind.wrap IntKind.i64 (a + (1 : Int)) + (1 : Int)) + (7 : Int)))) (0 : UInt8))) : Int)) - (9223372036854775808 : Int)))), PV.str { data := #[] }], PV.int IntKind.i64 (IntKind.wrap IntKind.i64 (IntKind.wrap IntKind.i64 (IntKind.wrap IntKind.i64 (a + (1 : Int)) + (1 : Int)) + (8 : Int))), PV.bool false], [])))) none) none) none) none) none) none) none) none) (br (IntKind.wrap IntKind.i64 (IntKind.wrap IntKind.i64 (↑(UInt8.toNat (List.getD (Array.toList (ByteArray.data s)) (Int.toNat a) (0 : UInt8))) : Int) - (1 : Int)) == (3 : Int)) (br (decide (ByteArray.size s ≤ 99999999 ∧ (0 : Int) ≤ IntKind.wrap IntKind.i64 (IntKind.wrap IntKind.i64 (a + (1 : Int)) + (1 : Int)) ∧ IntKind.wrap IntKind.i64 (IntKind.wrap IntKind.i64 (a + (1 : Int)) + (1 : Int)) ≤ (↑(ByteArray.size s) : Int) ∧ 0 = 0 ∧ 0 = 0)) (br (mayV (IntKind.wrap IntKind.i64 (IntKind.wrap IntKind.i64 (↑(UInt8.toNat (List.getD (Array.toList (ByteArray.data s)) (Int.toNat a) (0 : UInt8))) : Int) - (1 : Int))) (IntKind.wrap IntKind.i64 (↑(UInt8.toNat (List.getD (Array.toList (ByteArray.data s)) (Int.toNat (IntKind.wrap IntKind.i64 (a + (1 : Int)))) (0 : UInt8))) : Int)) (bl (Prod.fst (tkT (List.drop (Int.toNat (IntKind.wrap IntKind.i64 (IntKind.wrap IntKind.i64 (a + (1 : Int)) + (1 : Int)))) (Array.toList (ByteArray.data s))))))) (k (PV.tuple [PV.agg [PV.int IntKind.i64 (IntKind.wrap IntKind.i64 (IntKind.wrap IntKind.i64 (↑(UInt8.toNat (List.getD (Array.toList (ByteArray.data s)) (Int.toNat a) (0 : UInt8))) : Int) - (1 : Int))), PV.int IntKind.i64 (IntKind.wrap IntKind.i64 (↑(UInt8.toNat (List.getD (Array.toList (ByteArray.data s)) (Int.toNat (IntKind.wrap IntKind.i64 (a + (1 : Int)))) (0 : UInt8))) : Int)), PV.str (bl (Prod.fst (tkT (List.drop (Int.toNat (IntKind.wrap IntKind.i64 (IntKind.wrap IntKind.i64 (a + (1 : Int)) + (1 : Int)))) (Array.toList (ByteArray.data s))))))], PV.int IntKind.i64 (IntKind.wrap IntKind.i64 (IntKind.wrap IntKind.i64 (IntKind.wrap IntKind.i64 (a + (1 : Int)) + (1 : Int)) + (↑(Prod.snd (tkT (List.drop (Int.toNat (IntKind.wrap IntKind.i64 (IntKind.wrap IntKind.i64 (a + (1 : Int)) + (1 : Int)))) (Array.toList (ByteArray.data s))))) : Int) + (2 : Int))), PV.bool (decide (IntKind.wrap IntKind.i64 (IntKind.wrap IntKind.i64 (IntKind.wrap IntKind.i64 (a + (1 : Int)) + (1 : Int)) + (↑(Prod.snd (tkT (List.drop (Int.toNat (IntKind.wrap IntKind.i64 (IntKind.wrap IntKind.i64 (a + (1 : Int)) + (1 : Int)))) (Array.toList (ByteArray.data s))))) : Int) + (2 : Int)) ≤ (↑(ByteArray.size s) : Int)))], [])) (k (PV.tuple [PV.agg [PV.int IntKind.i64 (IntKind.wrap IntKind.i64 (IntKind.wrap IntKind.i64 (↑(UInt8.toNat (List.getD (Array.toList (ByteArray.data s)) (Int.toNat a) (0 : UInt8))) : Int) - (1 : Int))), PV.int IntKind.i64 (IntKind.wrap IntKind.i64 (↑(UInt8.toNat (List.getD (Array.toList (ByteArray.data s)) (Int.toNat (IntKind.wrap IntKind.i64 (a + (1 : Int)))) (0 : UInt8))) : Int)), PV.str (bl (Prod.fst (tkT (List.drop (Int.toNat (IntKind.wrap IntKind.i64 (IntKind.wrap IntKind.i64 (a + (1 : Int)) + (1 : Int)))) (Array.toList (ByteArray.data s))))))], PV.int IntKind.i64 (IntKind.wrap IntKind.i64 (IntKind.wrap IntKind.i64 (IntKind.wrap IntKind.i64 (a + (1 : Int)) + (1 : Int)) + (↑(Prod.snd (tkT (List.drop (Int.toNat (IntKind.wrap IntKind.i64 (IntKind.wrap IntKind.i64 (a + (1 : Int)) + (1 : Int)))) (Array.toList (ByteArray.data s))))) : Int) + (2 : Int))), PV.bool false], []))) none) (br (mayV (IntKind.wrap IntKind.i64 (IntKind.wrap IntKind.i64 (↑(UInt8.toNat (List.getD (Array.toList (ByteArray.data s)) (Int.toNat a) (0 : UInt8))) : Int) - (1 : Int))) (IntKind.wrap IntKind.i64 (↑(UInt8.toNat (List.getD (Array.toList (ByteArray.data s)) (Int.toNat (IntKind.wrap IntKind.i64 (a + (1 : Int)))) (0 : UInt8))) : Int)) { data := #[] }) (k (PV.tuple [PV.agg [PV.int IntKind.i64 (IntKind.wrap IntKind.i64 (IntKind.wrap IntKind.i64 (↑(UInt8.toNat (List.getD (Array.toList (ByteArray.data s)) (Int.toNat a) (0 : UInt8))) : Int) - (1 : Int))), PV.int IntKind.i64 (IntKind.wrap IntKind.i64 (↑(UInt8.toNat (List.getD (Array.toList (ByteArray.data s)) (Int.toNat (IntKind.wrap IntKind.i64 (a + (1 : Int)))) (0 : UInt8))) : Int)), PV.str { data := #[] }], PV.int IntKind.i64 (IntKind.wrap IntKind.i64 (IntKind.wrap IntKind.i64 (a + (1 : Int)) + (1 : Int))), PV.bool (decide (IntKind.wrap IntKind.i64 (IntKind.wrap IntKind.i64 (a + (1 : Int)) + (1 : Int)) ≤ (↑(ByteArray.size s) : Int)))], [])) (k (PV.tuple [PV.agg [PV.int IntKind.i64 (IntKind.wrap IntKind.i64 (IntKind.wrap IntKind.i64 (↑(UInt8.toNat (List.getD (Array.toList (ByteArray.data s)) (Int.toNat a) (0 : UInt8))) : Int) - (1 : Int))), PV.int IntKind.i64 (IntKind.wrap IntKind.i64 (↑(UInt8.toNat (List.getD (Array.toList (ByteArray.data s)) (Int.toNat (IntKind.wrap IntKind.i64 (a + (1 : Int)))) (0 : UInt8))) : Int)), PV.str { data := #[] }], PV.int IntKind.i64 (IntKind.wrap IntKind.i64 (IntKind.wrap IntKind.i64 (a + (1 : Int)) + (1 : Int))), PV.bool false], []))))) (br (IntKind.wrap IntKind.i64 (IntKind.wrap IntKind.i64 (↑(UInt8.toNat (List.getD (Array.toList (ByteArray.data s)) (Int.toNat a) (0 : UInt8))) : Int) - (1 : Int)) == (3 : Int)) (br (decide (ByteArray.size s ≤ 99999999 ∧ (0 : Int) ≤ IntKind.wrap IntKind.i64 (IntKind.wrap IntKind.i64 (a + (1 : Int)) + (1 : Int)) ∧ IntKind.wrap IntKind.i64 (IntKind.wrap IntKind.i64 (a + (1 : Int)) + (1 : Int)) ≤ (↑(ByteArray.size s) : Int) ∧ 0 = 0 ∧ 0 = 0)) (br (mayV (IntKind.wrap IntKind.i64 (IntKind.wrap IntKind.i64 (↑(UInt8.toNat (List.getD (Array.toList (ByteArray.data s)) (Int.toNat a) (0 : UInt8))) : Int) - (1 : Int))) (IntKind.wrap IntKind.i64 (↑(UInt8.toNat (List.getD (Array.toList (ByteArray.data s)) (Int.toNat (IntKind.wrap IntKind.i64 (a + (1 : Int)))) (0 : UInt8))) : Int)) (bl (Prod.fst (tkT (List.drop (Int.toNat (IntKind.wrap IntKind.i64 (IntKind.wrap IntKind.i64 (a + (1 : Int)) + (1 : Int)))) (Array.toList (ByteArray.data s))))))) (k (PV.tuple [PV.agg [PV.int IntKind.i64 (IntKind.wrap IntKind.i64 (IntKind.wrap IntKind.i64 (↑(UInt8.toNat (List.getD (Array.toList (ByteArray.data s)) (Int.toNat a) (0 : UInt8))) : Int) - (1 : Int))), PV.int IntKind.i64 (IntKind.wrap IntKind.i64 (↑(UInt8.toNat (List.getD (Array.toList (ByteArray.data s)) (Int.toNat (IntKind.wrap IntKind.i64 (a + (1 : Int)))) (0 : UInt8))) : Int)), PV.str (bl (Prod.fst (tkT (List.drop (Int.toNat (IntKind.wrap IntKind.i64 (IntKind.wrap IntKind.i64 (a + (1 : Int)) + (1 : Int)))) (Array.toList (ByteArray.data s))))))], PV.int IntKind.i64 (IntKind.wrap IntKind.i64 (IntKind.wrap IntKind.i64 (IntKind.wrap IntKind.i64 (a + (1 : Int)) + (1 : Int)) + (↑(Prod.snd (tkT (List.drop (Int.toNat (IntKind.wrap IntKind.i64 (IntKind.wrap IntKind.i64 (a + (1 : Int)) + (1 : Int)))) (Array.toList (ByteArray.data s))))) : Int) + (2 : Int))), PV.bool (decide (IntKind.wrap IntKind.i64 (IntKind.wrap IntKind.i64 (IntKind.wrap IntKind.i64 (a + (1 : Int)) + (1 : Int)) + (↑(Prod.snd (tkT (List.drop (Int.toNat (IntKind.wrap IntKind.i64 (IntKind.wrap IntKind.i64 (a + (1 : Int)) + (1 : Int)))) (Array.toList (ByteArray.data s))))) : Int) + (2 : Int)) ≤ (↑(ByteArray.size s) : Int)))], [])) (k (PV.tuple [PV.agg [PV.int IntKind.i64 (IntKind.wrap IntKind.i64 (IntKind.wrap IntKind.i64 (↑(UInt8.toNat (List.getD (Array.toList (ByteArray.data s)) (Int.toNat a) (0 : UInt8))) : Int) - (1 : Int))), PV.int IntKind.i64 (IntKind.wrap IntKind.i64 (↑(UInt8.toNat (List.getD (Array.toList (ByteArray.data s)) (Int.toNat (IntKind.wrap IntKind.i64 (a + (1 : Int)))) (0 : UInt8))) : Int)), PV.str (bl (Prod.fst (tkT (List.drop (Int.toNat (IntKind.wrap IntKind.i64 (IntKind.wrap IntKind.i64 (a + (1 : Int)) + (1 : Int)))) (Array.toList (ByteArray.data s))))))], PV.int IntKind.i64 (IntKind.wrap IntKind.i64 (IntKind.wrap IntKind.i64 (IntKind.wrap IntKind.i64 (a + (1 : Int)) + (1 : Int)) + (↑(Prod.snd (tkT (List.drop (Int.toNat (IntKind.wrap IntKind.i64 (IntKind.wrap IntKind.i64 (a + (1 : Int)) + (1 : Int)))) (Array.toList (ByteArray.data s))))) : Int) + (2 : Int))), PV.bool false], []))) none) (br (mayV (IntKind.wrap IntKind.i64 (IntKind.wrap IntKind.i64 (↑(UInt8.toNat (List.getD (Array.toList (ByteArray.data s)) (Int.toNat a) (0 : UInt8))) : Int) - (1 : Int))) (IntKind.wrap IntKind.i64 (↑(UInt8.toNat (List.getD (Array.toList (ByteArray.data s)) (Int.toNat (IntKind.wrap IntKind.i64 (a + (1 : Int)))) (0 : UInt8))) : Int)) { data := #[] }) (k (PV.tuple [PV.agg [PV.int IntKind.i64 (IntKind.wrap IntKind.i64 (IntKind.wrap IntKind.i64 (↑(UInt8.toNat (List.getD (Array.toList (ByteArray.data s)) (Int.toNat a) (0 : UInt8))) : Int) - (1 : Int))), PV.int IntKind.i64 (IntKind.wrap IntKind.i64 (↑(UInt8.toNat (List.getD (Array.toList (ByteArray.data s)) (Int.toNat (IntKind.wrap IntKind.i64 (a + (1 : Int)))) (0 : UInt8))) : Int)), PV.str { data := #[] }], PV.int IntKind.i64 (IntKind.wrap IntKind.i64 (IntKind.wrap IntKind.i64 (a + (1 : Int)) + (1 : Int))), PV.bool (decide (IntKind.wrap IntKind.i64 (IntKind.wrap IntKind.i64 (a + (1 : Int)) + (1 : Int)) ≤ (↑(ByteArray.size s) : Int)))], [])) (k (PV.tuple [PV.agg [PV.int IntKind.i64 (IntKind.wrap IntKind.i64 (IntKind.wrap IntKind.i64 (↑(UInt8.toNat (List.getD (Array.toList (ByteArray.data s)) (Int.toNat a) (0 : UInt8))) : Int) - (1 : Int))), PV.int IntKind.i64 (IntKind.wrap IntKind.i64 (↑(UInt8.toNat (List.getD (Array.toList (ByteArray.data s)) (Int.toNat (IntKind.wrap IntKind.i64 (a + (1 : Int)))) (0 : UInt8))) : Int)), PV.str { data := #[] }], PV.int IntKind.i64 (IntKind.wrap IntKind.i64 (IntKind.wrap IntKind.i64 (a + (1 : Int)) + (1 : Int))), PV.bool false], []))))) none) (br (IntKind.wrap IntKind.i64 (IntKind.wrap IntKind.i64 (↑(UInt8.toNat (List.getD (Array.toList (ByteArray.data s)) (Int.toNat a) (0 : UInt8))) : Int) - (1 : Int)) == (2 : Int)) (br (decide (IntKind.wrap IntKind.i64 (IntKind.wrap IntKind.i64 (a + (1 : Int)) + (8 : Int)) ≤ (↑(ByteArray.size s) : Int))) (br (decide ((0 : Int) ≤ IntKind.wrap IntKind.i64 (IntKind.wrap IntKind.i64 (a + (1 : Int)) + (0 : Int)) ∧ IntKind.wrap IntKind.i64 (IntKind.wrap IntKind.i64 (a + (1 : Int)) + (0 : Int)) < (↑(ByteArray.size s) : Int))) (br (decide ((0 : Int) ≤ IntKind.wrap IntKind.i64 (IntKind.wrap IntKind.i64 (a + (1 : Int)) + (1 : Int)) ∧ IntKind.wrap IntKind.i64 (IntKind.wrap IntKind.i64 (a + (1 : Int)) + (1 : Int)) < (↑(ByteArray.size s) : Int))) (br (decide ((0 : Int) ≤ IntKind.wrap IntKind.i64 (IntKind.wrap IntKind.i64 (a + (1 : Int)) + (2 : Int)) ∧ IntKind.wrap IntKind.i64 (IntKind.wrap IntKind.i64 (a + (1 : Int)) + (2 : Int)) < (↑(ByteArray.size s) : Int))) (br (decide ((0 : Int) ≤ IntKind.wrap IntKind.i64 (IntKind.wrap IntKind.i64 (a + (1 : Int)) + (3 : Int)) ∧ IntKind.wrap IntKind.i64 (IntKind.wrap IntKind.i64 (a + (1 : Int)) + (3 : Int)) < (↑(ByteArray.size s) : Int))) (br (decide ((0 : Int) ≤ IntKind.wrap IntKind.i64 (IntKind.wrap IntKind.i64 (a + (1 : Int)) + (4 : Int)) ∧ IntKind.wrap IntKind.i64 (IntKind.wrap IntKind.i64 (a + (1 : Int)) + (4 : Int)) < (↑(ByteArray.size s) : Int))) (br (decide ((0 : Int) ≤ IntKind.wrap IntKind.i64 (IntKind.wrap IntKind.i64 (a + (1 : Int)) + (5 : Int)) ∧ IntKind.wrap IntKind.i64 (IntKind.wrap IntKind.i64 (a + (1 : Int)) + (5 : Int)) < (↑(ByteArray.size s) : Int))) (br (decide ((0 : Int) ≤ IntKind.wrap IntKind.i64 (IntKind.wrap IntKind.i64 (a + (1 : Int)) + (6 : Int)) ∧ IntKind.wrap IntKind.i64 (IntKind.wrap IntKind.i64 (a + (1 : Int)) + (6 : Int)) < (↑(ByteArray.size s) : Int))) (br (decide ((0 : Int) ≤ IntKind.wrap IntKind.i64 (IntKind.wrap IntKind.i64 (a + (1 : Int)) + (7 : Int)) ∧ IntKind.wrap IntKind.i64 (IntKind.wrap IntKind.i64 (a + (1 : Int)) + (7 : Int)) < (↑(ByteArray.size s) : Int))) (br (IntKind.wrap IntKind.i64 (IntKind.wrap IntKind.i64 (↑(UInt8.toNat (List.getD (Array.toList (ByteArray.data s)) (Int.toNat a) (0 : UInt8))) : Int) - (1 : Int)) == (3 : Int)) (br (decide (ByteArray.size s ≤ 99999999 ∧ (0 : Int) ≤ IntKind.wrap IntKind.i64 (IntKind.wrap IntKind.i64 (a + (1 : Int)) + (8 : Int)) ∧ IntKind.wrap IntKind.i64 (IntKind.wrap IntKind.i64 (a + (1 : Int)) + (8 : Int)) ≤ (↑(ByteArray.size s) : Int) ∧ 0 = 0 ∧ 0 = 0)) (br (mayV (IntKind.wrap IntKind.i64 (IntKind.wrap IntKind.i64 (↑(UInt8.toNat (List.getD (Array.toList (ByteArray.data s)) (Int.toNat a) (0 : UInt8))) : Int) - (1 : Int))) (IntKind.wrap IntKind.i64 (IntKind.wrap IntKind.u64 (IntKind.wrap IntKind.u64 (IntKind.wrap IntKind.u64 ((256 : Int) * IntKind.wrap IntKind.u64 (IntKind.wrap IntKind.u64 ((256 : Int) * IntKind.wrap IntKind.u64 (IntKind.wrap IntKind.u64 ((256 : Int) * IntKind.wrap IntKind.u64 (IntKind.wrap IntKind.u64 ((256 : Int) * IntKind.wrap IntKind.u64 (IntKind.wrap IntKind.u64 ((256 : Int) * IntKind.wrap IntKind.u64 (IntKind.wrap IntKind.u64 ((256 : Int) * IntKind.wrap IntKind.u64 (IntKind.wrap IntKind.u64 ((256 : Int) * IntKind.wrap IntKind.u64 ((0 : Int) + IntKind.wrap IntKind.u64 (↑(UInt8.toNat (List.getD (Array.toList (ByteArray.data s)) (Int.toNat (IntKind.wrap IntKind.i64 (IntKind.wrap IntKind.i64 (a + (1 : Int)) + (0 : Int)))) (0 : UInt8))) : Int))) + IntKind.wrap IntKind.u64 (↑(UInt8.toNat (List.getD (Array.toList (ByteArray.data s)) (Int.toNat (IntKind.wrap IntKind.i64 (IntKind.wrap IntKind.i64 (a + (1 : Int)) + (1 : Int)))) (0 : UInt8))) : Int))) + IntKind.wrap IntKind.u64 (↑(UInt8.toNat (List.getD (Array.toList (ByteArray.data s)) (Int.toNat (IntKind.wrap IntKind.i64 (IntKind.wrap IntKind.i64 (a + (1 : Int)) + (2 : Int)))) (0 : UInt8))) : Int))) + IntKind.wrap IntKind.u64 (↑(UInt8.toNat (List.getD (Array.toList (ByteArray.data s)) (Int.toNat (IntKind.wrap IntKind.i64 (IntKind.wrap IntKind.i64 (a + (1 : Int)) + (3 : Int)))) (0 : UInt8))) : Int))) + IntKind.wrap IntKind.u64 (↑(UInt8.toNat (List.getD (Array.toList (ByteArray.data s)) (Int.toNat (IntKind.wrap IntKind.i64 (IntKind.wrap IntKind.i64 (a + (1 : Int)) + (4 : Int)))) (0 : UInt8))) : Int))) + IntKind.wrap IntKind.u64 (↑(UInt8.toNat (List.getD (Array.toList (ByteArray.data s)) (Int.toNat (IntKind.wrap IntKind.i64 (IntKind.wrap IntKind.i64 (a + (1 : Int)) + (5 : Int)))) (0 : UInt8))) : Int))) + IntKind.wrap IntKind.u64 (↑(UInt8.toNat (List.getD (Array.toList (ByteArray.data s)) (Int.toNat (IntKind.wrap IntKind.i64 (IntKind.wrap IntKind.i64 (a + (1 : Int)) + (6 : Int)))) (0 : UInt8))) : Int))) + IntKind.wrap IntKind.u64 (↑(UInt8.toNat (List.getD (Array.toList (ByteArray.data s)) (Int.toNat (IntKind.wrap IntKind.i64 (IntKind.wrap IntKind.i64 (a + (1 : Int)) + (7 : Int)))) (0 : UInt8))) : Int)) - (9223372036854775808 : Int)))) (bl (Prod.fst (tkT (List.drop (Int.toNat (IntKind.wrap IntKind.i64 (IntKind.wrap IntKind.i64 (a + (1 : Int)) + (8 : Int)))) (Array.toList (ByteArray.data s))))))) (k (PV.tuple [PV.agg [PV.int IntKind.i64 (IntKind.wrap IntKind.i64 (IntKind.wrap IntKind.i64 (↑(UInt8.toNat (List.getD (Array.toList (ByteArray.data s)) (Int.toNat a) (0 : UInt8))) : Int) - (1 : Int))), PV.int IntKind.i64 (IntKind.wrap IntKind.i64 (IntKind.wrap IntKind.u64 (IntKind.wrap IntKind.u64 (IntKind.wrap IntKind.u64 ((256 : Int) * IntKind.wrap IntKind.u64 (IntKind.wrap IntKind.u64 ((256 : Int) * IntKind.wrap IntKind.u64 (IntKind.wrap IntKind.u64 ((256 : Int) * IntKind.wrap IntKind.u64 (IntKind.wrap IntKind.u64 ((256 : Int) * IntKind.wrap IntKind.u64 (IntKind.wrap IntKind.u64 ((256 : Int) * IntKind.wrap IntKind.u64 (IntKind.wrap IntKind.u64 ((256 : Int) * IntKind.wrap IntKind.u64 (IntKind.wrap IntKind.u64 ((256 : Int) * IntKind.wrap IntKind.u64 ((0 : Int) + IntKind.wrap IntKind.u64 (↑(UInt8.toNat (List.getD (Array.toList (ByteArray.data s)) (Int.toNat (IntKind.wrap IntKind.i64 (IntKind.wrap IntKind.i64 (a + (1 : Int)) + (0 : Int)))) (0 : UInt8))) : Int))) + IntKind.wrap IntKind.u64 (↑(UInt8.toNat (List.getD (Array.toList (ByteArray.data s)) (Int.toNat (IntKind.wrap IntKind.i64 (IntKind.wrap IntKind.i64 (a + (1 : Int)) + (1 : Int)))) (0 : UInt8))) : Int))) + IntKind.wrap IntKind.u64 (↑(UInt8.toNat (List.getD (Array.toList (ByteArray.data s)) (Int.toNat (IntKind.wrap IntKind.i64 (IntKind.wrap IntKind.i64 (a + (1 : Int)) + (2 : Int)))) (0 : UInt8))) : Int))) + IntKind.wrap IntKind.u64 (↑(UInt8.toNat (List.getD (Array.toList (ByteArray.data s)) (Int.toNat (IntKind.wrap IntKind.i64 (IntKind.wrap IntKind.i64 (a + (1 : Int)) + (3 : Int)))) (0 : UInt8))) : Int))) + IntKind.wrap IntKind.u64 (↑(UInt8.toNat (List.getD (Array.toList (ByteArray.data s)) (Int.toNat (IntKind.wrap IntKind.i64 (IntKind.wrap IntKind.i64 (a + (1 : Int)) + (4 : Int)))) (0 : UInt8))) : Int))) + IntKind.wrap IntKind.u64 (↑(UInt8.toNat (List.getD (Array.toList (ByteArray.data s)) (Int.toNat (IntKind.wrap IntKind.i64 (IntKind.wrap IntKind.i64 (a + (1 : Int)) + (5 : Int)))) (0 : UInt8))) : Int))) + IntKind.wrap IntKind.u64 (↑(UInt8.toNat (List.getD (Array.toList (ByteArray.data s)) (Int.toNat (IntKind.wrap IntKind.i64 (IntKind.wrap IntKind.i64 (a + (1 : Int)) + (6 : Int)))) (0 : UInt8))) : Int))) + IntKind.wrap IntKind.u64 (↑(UInt8.toNat (List.getD (Array.toList (ByteArray.data s)) (Int.toNat (IntKind.wrap IntKind.i64 (IntKind.wrap IntKind.i64 (a + (1 : Int)) + (7 : Int)))) (0 : UInt8))) : Int)) - (9223372036854775808 : Int)))), PV.str (bl (Prod.fst (tkT (List.drop (Int.toNat (IntKind.wrap IntKind.i64 (IntKind.wrap IntKind.i64 (a + (1 : Int)) + (8 : Int)))) (Array.toList (ByteArray.data s))))))], PV.int IntKind.i64 (IntKind.wrap IntKind.i64 (IntKind.wrap IntKind.i64 (IntKind.wrap IntKind.i64 (a + (1 : Int)) + (8 : Int)) + (↑(Prod.snd (tkT (List.drop (Int.toNat (IntKind.wrap IntKind.i64 (IntKind.wrap IntKind.i64 (a + (1 : Int)) + (8 : Int)))) (Array.toList (ByteArray.data s))))) : Int) + (2 : Int))), PV.bool (decide (IntKind.wrap IntKind.i64 (IntKind.wrap IntKind.i64 (IntKind.wrap IntKind.i64 (a + (1 : Int)) + (8 : Int)) + (↑(Prod.snd (tkT (List.drop (Int.toNat (IntKind.wrap IntKind.i64 (IntKind.wrap IntKind.i64 (a + (1 : Int)) + (8 : Int)))) (Array.toList (ByteArray.data s))))) : Int) + (2 : Int)) ≤ (↑(ByteArray.size s) : Int)))], [])) (k (PV.tuple [PV.agg [PV.int IntKind.i64 (IntKind.wrap IntKind.i64 (IntKind.wrap IntKind.i64 (↑(UInt8.toNat (List.getD (Array.toList (ByteArray.data s)) (Int.toNat a) (0 : UInt8))) : Int) - (1 : Int))), PV.int IntKind.i64 (IntKind.wrap IntKind.i64 (IntKind.wrap IntKind.u64 (IntKind.wrap IntKind.u64 (IntKind.wrap IntKind.u64 ((256 : Int) * IntKind.wrap IntKind.u64 (IntKind.wrap IntKind.u64 ((256 : Int) * IntKind.wrap IntKind.u64 (IntKind.wrap IntKind.u64 ((256 : Int) * IntKind.wrap IntKind.u64 (IntKind.wrap IntKind.u64 ((256 : Int) * IntKind.wrap IntKind.u64 (IntKind.wrap IntKind.u64 ((256 : Int) * IntKind.wrap IntKind.u64 (IntKind.wrap IntKind.u64 ((256 : Int) * IntKind.wrap IntKind.u64 (IntKind.wrap IntKind.u64 ((256 : Int) * IntKind.wrap IntKind.u64 ((0 : Int) + IntKind.wrap IntKind.u64 (↑(UInt8.toNat (List.getD (Array.toList (ByteArray.data s)) (Int.toNat (IntKind.wrap IntKind.i64 (IntKind.wrap IntKind.i64 (a + (1 : Int)) + (0 : Int)))) (0 : UInt8))) : Int))) + IntKind.wrap IntKind.u64 (↑(UInt8.toNat (List.getD (Array.toList (ByteArray.data s)) (Int.toNat (IntKind.wrap IntKind.i64 (IntKind.wrap IntKind.i64 (a + (1 : Int)) + (1 : Int)))) (0 : UInt8))) : Int))) + IntKind.wrap IntKind.u64 (↑(UInt8.toNat (List.getD (Array.toList (ByteArray.data s)) (Int.toNat (IntKind.wrap IntKind.i64 (IntKind.wrap IntKind.i64 (a + (1 : Int)) + (2 : Int)))) (0 : UInt8))) : Int))) + IntKind.wrap IntKind.u64 (↑(UInt8.toNat (List.getD (Array.toList (ByteArray.data s)) (Int.toNat (IntKind.wrap IntKind.i64 (IntKind.wrap IntKind.i64 (a + (1 : Int)) + (3 : Int)))) (0 : UInt8))) : Int))) + IntKind.wrap IntKind.u64 (↑(UInt8.toNat (List.getD (Array.toList (ByteArray.data s)) (Int.toNat (IntKind.wrap IntKind.i64 (IntKind.wrap IntKind.i64 (a + (1 : Int)) + (4 : Int)))) (0 : UInt8))) : Int))) + IntKind.wrap IntKind.u64 (↑(UInt8.toNat (List.getD (Array.toList (ByteArray.data s)) (Int.toNat (IntKind.wrap IntKind.i64 (IntKind.wrap IntKind.i64 (a + (1 : Int)) + (5 : Int)))) (0 : UInt8))) : Int))) + IntKind.wrap IntKind.u64 (↑(UInt8.toNat (List.getD (Array.toList (ByteArray.data s)) (Int.toNat (IntKind.wrap IntKind.i64 (IntKind.wrap IntKind.i64 (a + (1 : Int)) + (6 : Int)))) (0 : UInt8))) : Int))) + IntKind.wrap IntKind.u64 (↑(UInt8.toNat (List.getD (Array.toList (ByteArray.data s)) (Int.toNat (IntKind.wrap IntKind.i64 (IntKind.wrap IntKind.i64 (a + (1 : Int)) + (7 : Int)))) (0 : UInt8))) : Int)) - (9223372036854775808 : Int)))), PV.str (bl (Prod.fst (tkT (List.drop (Int.toNat (IntKind.wrap IntKind.i64 (IntKind.wrap IntKind.i64 (a + (1 : Int)) + (8 : Int)))) (Array.toList (ByteArray.data s))))))], PV.int IntKind.i64 (IntKind.wrap IntKind.i64 (IntKind.wrap IntKind.i64 (IntKind.wrap IntKind.i64 (a + (1 : Int)) + (8 : Int)) + (↑(Prod.snd (tkT (List.drop (Int.toNat (IntKind.wrap IntKind.i64 (IntKind.wrap IntKind.i64 (a + (1 : Int)) + (8 : Int)))) (Array.toList (ByteArray.data s))))) : Int) + (2 : Int))), PV.bool false], []))) none) (br (mayV (IntKind.wrap IntKind.i64 (IntKind.wrap IntKind.i64 (↑(UInt8.toNat (List.getD (Array.toList (ByteArray.data s)) (Int.toNat a) (0 : UInt8))) : Int) - (1 : Int))) (IntKind.wrap IntKind.i64 (IntKind.wrap IntKind.u64 (IntKind.wrap IntKind.u64 (IntKind.wrap IntKind.u64 ((256 : Int) * IntKind.wrap IntKind.u64 (IntKind.wrap IntKind.u64 ((256 : Int) * IntKind.wrap IntKind.u64 (IntKind.wrap IntKind.u64 ((256 : Int) * IntKind.wrap IntKind.u64 (IntKind.wrap IntKind.u64 ((256 : Int) * IntKind.wrap IntKind.u64 (IntKind.wrap IntKind.u64 ((256 : Int) * IntKind.wrap IntKind.u64 (IntKind.wrap IntKind.u64 ((256 : Int) * IntKind.wrap IntKind.u64 (IntKind.wrap IntKind.u64 ((256 : Int) * IntKind.wrap IntKind.u64 ((0 : Int) + IntKind.wrap IntKind.u64 (↑(UInt8.toNat (List.getD (Array.toList (ByteArray.data s)) (Int.toNat (IntKind.wrap IntKind.i64 (IntKind.wrap IntKind.i64 (a + (1 : Int)) + (0 : Int)))) (0 : UInt8))) : Int))) + IntKind.wrap IntKind.u64 (↑(UInt8.toNat (List.getD (Array.toList (ByteArray.data s)) (Int.toNat (IntKind.wrap IntKind.i64 (IntKind.wrap IntKind.i64 (a + (1 : Int)) + (1 : Int)))) (0 : UInt8))) : Int))) + IntKind.wrap IntKind.u64 (↑(UInt8.toNat (List.getD (Array.toList (ByteArray.data s)) (Int.toNat (IntKind.wrap IntKind.i64 (IntKind.wrap IntKind.i64 (a + (1 : Int)) + (2 : Int)))) (0 : UInt8))) : Int))) + IntKind.wrap IntKind.u64 (↑(UInt8.toNat (List.getD (Array.toList (ByteArray.data s)) (Int.toNat (IntKind.wrap IntKind.i64 (IntKind.wrap IntKind.i64 (a + (1 : Int)) + (3 : Int)))) (0 : UInt8))) : Int))) + IntKind.wrap IntKind.u64 (↑(UInt8.toNat (List.getD (Array.toList (ByteArray.data s)) (Int.toNat (IntKind.wrap IntKind.i64 (IntKind.wrap IntKind.i64 (a + (1 : Int)) + (4 : Int)))) (0 : UInt8))) : Int))) + IntKind.wrap IntKind.u64 (↑(UInt8.toNat (List.getD (Array.toList (ByteArray.data s)) (Int.toNat (IntKind.wrap IntKind.i64 (IntKind.wrap IntKind.i64 (a + (1 : Int)) + (5 : Int)))) (0 : UInt8))) : Int))) + IntKind.wrap IntKind.u64 (↑(UInt8.toNat (List.getD (Array.toList (ByteArray.data s)) (Int.toNat (IntKind.wrap IntKind.i64 (IntKind.wrap IntKind.i64 (a + (1 : Int)) + (6 : Int)))) (0 : UInt8))) : Int))) + IntKind.wrap IntKind.u64 (↑(UInt8.toNat (List.getD (Array.toList (ByteArray.data s)) (Int.toNat (IntKind.wrap IntKind.i64 (IntKind.wrap IntKind.i64 (a + (1 : Int)) + (7 : Int)))) (0 : UInt8))) : Int)) - (9223372036854775808 : Int)))) { data := #[] }) (k (PV.tuple [PV.agg [PV.int IntKind.i64 (IntKind.wrap IntKind.i64 (IntKind.wrap IntKind.i64 (↑(UInt8.toNat (List.getD (Array.toList (ByteArray.data s)) (Int.toNat a) (0 : UInt8))) : Int) - (1 : Int))), PV.int IntKind.i64 (IntKind.wrap IntKind.i64 (IntKind.wrap IntKind.u64 (IntKind.wrap IntKind.u64 (IntKind.wrap IntKind.u64 ((256 : Int) * IntKind.wrap IntKind.u64 (IntKind.wrap IntKind.u64 ((256 : Int) * IntKind.wrap IntKind.u64 (IntKind.wrap IntKind.u64 ((256 : Int) * IntKind.wrap IntKind.u64 (IntKind.wrap IntKind.u64 ((256 : Int) * IntKind.wrap IntKind.u64 (IntKind.wrap IntKind.u64 ((256 : Int) * IntKind.wrap IntKind.u64 (IntKind.wrap IntKind.u64 ((256 : Int) * IntKind.wrap IntKind.u64 (IntKind.wrap IntKind.u64 ((256 : Int) * IntKind.wrap IntKind.u64 ((0 : Int) + IntKind.wrap IntKind.u64 (↑(UInt8.toNat (List.getD (Array.toList (ByteArray.data s)) (Int.toNat (IntKind.wrap IntKind.i64 (IntKind.wrap IntKind.i64 (a + (1 : Int)) + (0 : Int)))) (0 : UInt8))) : Int))) + IntKind.wrap IntKind.u64 (↑(UInt8.toNat (List.getD (Array.toList (ByteArray.data s)) (Int.toNat (IntKind.wrap IntKind.i64 (IntKind.wrap IntKind.i64 (a + (1 : Int)) + (1 : Int)))) (0 : UInt8))) : Int))) + IntKind.wrap IntKind.u64 (↑(UInt8.toNat (List.getD (Array.toList (ByteArray.data s)) (Int.toNat (IntKind.wrap IntKind.i64 (IntKind.wrap IntKind.i64 (a + (1 : Int)) + (2 : Int)))) (0 : UInt8))) : Int))) + IntKind.wrap IntKind.u64 (↑(UInt8.toNat (List.getD (Array.toList (ByteArray.data s)) (Int.toNat (IntKind.wrap IntKind.i64 (IntKind.wrap IntKind.i64 (a + (1 : Int)) + (3 : Int)))) (0 : UInt8))) : Int))) + IntKind.wrap IntKind.u64 (↑(UInt8.toNat (List.getD (Array.toList (ByteArray.data s)) (Int.toNat (IntKind.wrap IntKind.i64 (IntKind.wrap IntKind.i64 (a + (1 : Int)) + (4 : Int)))) (0 : UInt8))) : Int))) + IntKind.wrap IntKind.u64 (↑(UInt8.toNat (List.getD (Array.toList (ByteArray.data s)) (Int.toNat (IntKind.wrap IntKind.i64 (IntKind.wrap IntKind.i64 (a + (1 : Int)) + (5 : Int)))) (0 : UInt8))) : Int))) + IntKind.wrap IntKind.u64 (↑(UInt8.toNat (List.getD (Array.toList (ByteArray.data s)) (Int.toNat (IntKind.wrap IntKind.i64 (IntKind.wrap IntKind.i64 (a + (1 : Int)) + (6 : Int)))) (0 : UInt8))) : Int))) + IntKind.wrap IntKind.u64 (↑(UInt8.toNat (List.getD (Array.toList (ByteArray.data s)) (Int.toNat (IntKind.wrap IntKind.i64 (IntKind.wrap IntKind.i64 (a + (1 : Int)) + (7 : Int)))) (0 : UInt8))) : Int)) - (9223372036854775808 : Int)))), PV.str { data := #[] }], PV.int IntKind.i64 (IntKind.wrap IntKind.i64 (IntKind.wrap IntKind.i64 (a + (1 : Int)) + (8 : Int))), PV.bool (decide (IntKind.wrap IntKind.i64 (IntKind.wrap IntKind.i64 (a + (1 : Int)) + (8 : Int)) ≤ (↑(ByteArray.size s) : Int)))], [])) (k (PV.tuple [PV.agg [PV.int IntKind.i64 (IntKind.wrap IntKind.i64 (IntKind.wrap IntKind.i64 (↑(UInt8.toNat (List.getD (Array.toList (ByteArray.data s)) (Int.toNat a) (0 : UInt8))) : Int) - (1 : Int))), PV.int IntKind.i64 (IntKind.wrap IntKind.i64 (IntKind.wrap IntKind.u64 (IntKind.wrap IntKind.u64 (IntKind.wrap IntKind.u64 ((256 : Int) * IntKind.wrap IntKind.u64 (IntKind.wrap IntKind.u64 ((256 : Int) * IntKind.wrap IntKind.u64 (IntKind.wrap IntKind.u64 ((256 : Int) * IntKind.wrap IntKind.u64 (IntKind.wrap IntKind.u64 ((256 : Int) * IntKind.wrap IntKind.u64 (IntKind.wrap IntKind.u64 ((256 : Int) * IntKind.wrap IntKind.u64 (IntKind.wrap IntKind.u64 ((256 : Int) * IntKind.wrap IntKind.u64 (IntKind.wrap IntKind.u64 ((256 : Int) * IntKind.wrap IntKind.u64 ((0 : Int) + IntKind.wrap IntKind.u64 (↑(UInt8.toNat (List.getD (Array.toList (ByteArray.data s)) (Int.toNat (IntKind.wrap IntKind.i64 (IntKind.wrap IntKind.i64 (a + (1 : Int)) + (0 : Int)))) (0 : UInt8))) : Int))) + IntKind.wrap IntKind.u64 (↑(UInt8.toNat (List.getD (Array.toList (ByteArray.data s)) (Int.toNat (IntKind.wrap IntKind.i64 (IntKind.wrap IntKind.i64 (a + (1 : Int)) + (1 : Int)))) (0 : UInt8))) : Int))) + IntKind.wrap IntKind.u64 (↑(UInt8.toNat (List.getD (Array.toList (ByteArray.data s)) (Int.toNat (IntKind.wrap IntKind.i64 (IntKind.wrap IntKind.i64 (a + (1 : Int)) + (2 : Int)))) (0 : UInt8))) : Int))) + IntKind.wrap IntKind.u64 (↑(UInt8.toNat (List.getD (Array.toList (ByteArray.data s)) (Int.toNat (IntKind.wrap IntKind.i64 (IntKind.wrap IntKind.i64 (a + (1 : Int)) + (3 : Int)))) (0 : UInt8))) : Int))) + IntKind.wrap IntKind.u64 (↑(UInt8.toNat (List.getD (Array.toList (ByteArray.data s)) (Int.toNat (IntKind.wrap IntKind.i64 (IntKind.wrap IntKind.i64 (a + (1 : Int)) + (4 : Int)))) (0 : UInt8))) : Int))) + IntKind.wrap IntKind.u64 (↑(UInt8.toNat (List.getD (Array.toList (ByteArray.data s)) (Int.toNat (IntKind.wrap IntKind.i64 (IntKind.wrap IntKind.i64 (a + (1 : Int)) + (5 : Int)))) (0 : UInt8))) : Int))) + IntKind.wrap IntKind.u64 (↑(UInt8.toNat (List.getD (Array.toList (ByteArray.data s)) (Int.toNat (IntKind.wrap IntKind.i64 (IntKind.wrap IntKind.i64 (a + (1 : Int)) + (6 : Int)))) (0 : UInt8))) : Int))) + IntKind.wrap IntKind.u64 (↑(UInt8.toNat (List.getD (Array.toList (ByteArray.data s)) (Int.toNat (IntKind.wrap IntKind.i64 (IntKind.wrap IntKind.i64 (a + (1 : Int)) + (7 : Int)))) (0 : UInt8))) : Int)) - (9223372036854775808 : Int)))), PV.str { data := #[] }], PV.int IntKind.i64 (IntKind.wrap IntKind.i64 (IntKind.wrap IntKind.i64 (a + (1 : Int)) + (8 : Int))), PV.bool false], [])))) none) none) none) none) none) none) none) none) (br (IntKind.wrap IntKind.i64 (IntKind.wrap IntKind.i64 (↑(UInt8.toNat (List.getD (Array.toList (ByteArray.data s)) (Int.toNat a) (0 : UInt8))) : Int) - (1 : Int)) == (3 : Int)) (br (decide (ByteArray.size s ≤ 99999999 ∧ (0 : Int) ≤ IntKind.wrap IntKind.i64 (a + (1 : Int)) ∧ IntKind.wrap IntKind.i64 (a + (1 : Int)) ≤ (↑(ByteArray.size s) : Int) ∧ 0 = 0 ∧ 0 = 0)) (br (mayV (IntKind.wrap IntKind.i64 (IntKind.wrap IntKind.i64 (↑(UInt8.toNat (List.getD (Array.toList (ByteArray.data s)) (Int.toNat a) (0 : UInt8))) : Int) - (1 : Int))) (0 : Int) (bl (Prod.fst (tkT (List.drop (Int.toNat (IntKind.wrap IntKind.i64 (a + (1 : Int)))) (Array.toList (ByteArray.data s))))))) (k (PV.tuple [PV.agg [PV.int IntKind.i64 (IntKind.wrap IntKind.i64 (IntKind.wrap IntKind.i64 (↑(UInt8.toNat (List.getD (Array.toList (ByteArray.data s)) (Int.toNat a) (0 : UInt8))) : Int) - (1 : Int))), PV.int IntKind.i64 (0 : Int), PV.str (bl (Prod.fst (tkT (List.drop (Int.toNat (IntKind.wrap IntKind.i64 (a + (1 : Int)))) (Array.toList (ByteArray.data s))))))], PV.int IntKind.i64 (IntKind.wrap IntKind.i64 (IntKind.wrap IntKind.i64 (a + (1 : Int)) + (↑(Prod.snd (tkT (List.drop (Int.toNat (IntKind.wrap IntKind.i64 (a + (1 : Int)))) (Array.toList (ByteArray.data s))))) : Int) + (2 : Int))), PV.bool (decide (IntKind.wrap IntKind.i64 (IntKind.wrap IntKind.i64 (a + (1 : Int)) + (↑(Prod.snd (tkT (List.drop (Int.toNat (IntKind.wrap IntKind.i64 (a + (1 : Int)))) (Array.toList (ByteArray.data s))))) : Int) + (2 : Int)) ≤ (↑(ByteArray.size s) : Int)))], [])) (k (PV.tuple [PV.agg [PV.int IntKind.i64 (IntKind.wrap IntKind.i64 (IntKind.wrap IntKind.i64 (↑(UInt8.toNat (List.getD (Array.toList (ByteArray.data s)) (Int.toNat a) (0 : UInt8))) : Int) - (1 : Int))), PV.int IntKind.i64 (0 : Int), PV.str (bl (Prod.fst (tkT (List.drop (Int.toNat (IntKind.wrap IntKind.i64 (a + (1 : Int)))) (Array.toList (ByteArray.data s))))))], PV.int IntKind.i64 (IntKind.wrap IntKind.i64 (IntKind.wrap IntKind.i64 (a + (1 : Int)) + (↑(Prod.snd (tkT (List.drop (Int.toNat (IntKind.wrap IntKind.i64 (a + (1 : Int)))) (Array.toList (ByteArray.data s))))) : Int) + (2 : Int))), PV.bool false], []))) none) (br (mayV (IntKind.wrap IntKind.i64 (IntKind.wrap IntKind.i64 (↑(UInt8.toNat (List.getD (Array.toList (ByteArray.data s)) (Int.toNat a) (0 : UInt8))) : Int) - (1 : Int))) (0 : Int) { data := #[] }) (k (PV.tuple [PV.agg [PV.int IntKind.i64 (IntKind.wrap IntKind.i64 (IntKind.wrap IntKind.i64 (↑(UInt8.toNat (List.getD (Array.toList (ByteArray.data s)) (Int.toNat a) (0 : UInt8))) : Int) - (1 : Int))), PV.int IntKind.i64 (0 : Int), PV.str { data := #[] }], PV.int IntKind.i64 (IntKind.wrap IntKind.i64 (a + (1 : Int))), PV.bool (decide (IntKind.wrap IntKind.i64 (a + (1 : Int)) ≤ (↑(ByteArray.size s) : Int)))], [])) (k (PV.tuple [PV.agg [PV.int IntKind.i64 (IntKind.wrap IntKind.i64 (IntKind.wrap IntKind.i64 (↑(UInt8.toNat (List.getD (Array.toList (ByteArray.data s)) (Int.toNat a) (0 : UInt8))) : Int) - (1 : Int))), PV.int IntKind.i64 (0 : Int), PV.str { data := #[] }], PV.int IntKind.i64 (IntKind.wrap IntKind.i64 (a + (1 : Int))), PV.bool false], []))))) (br (IntKind.wrap IntKind.i64 (IntKind.wrap IntKind.i64 (↑(UInt8.toNat (List.getD (Array.toList (ByteArray.data s)) (Int.toNat a) (0 : UInt8))) : Int) - (1 : Int)) == (3 : Int)) (br (decide (ByteArray.size s ≤ 99999999 ∧ (0 : Int) ≤ IntKind.wrap IntKind.i64 (a + (1 : Int)) ∧ IntKind.wrap IntKind.i64 (a + (1 : Int)) ≤ (↑(ByteArray.size s) : Int) ∧ 0 = 0 ∧ 0 = 0)) (br (mayV (IntKind.wrap IntKind.i64 (IntKind.wrap IntKind.i64 (↑(UInt8.toNat (List.getD (Array.toList (ByteArray.data s)) (Int.toNat a) (0 : UInt8))) : Int) - (1 : Int))) (0 : Int) (bl (Prod.fst (tkT (List.drop (Int.toNat (IntKind.wrap IntKind.i64 (a + (1 : Int)))) (Array.toList (ByteArray.data s))))))) (k (PV.tuple [PV.agg [PV.int IntKind.i64 (IntKind.wrap IntKind.i64 (IntKind.wrap IntKind.i64 (↑(UInt8.toNat (List.getD (Array.toList (ByteArray.data s)) (Int.toNat a) (0 : UInt8))) : Int) - (1 : Int))), PV.int IntKind.i64 (0 : Int), PV.str (bl (Prod.fst (tkT (List.drop (Int.toNat (IntKind.wrap IntKind.i64 (a + (1 : Int)))) (Array.toList (ByteArray.data s))))))], PV.int IntKind.i64 (IntKind.wrap IntKind.i64 (IntKind.wrap IntKind.i64 (a + (1 : Int)) + (↑(Prod.snd (tkT (List.drop (Int.toNat (IntKind.wrap IntKind.i64 (a + (1 : Int)))) (Array.toList (ByteArray.data s))))) : Int) + (2 : Int))), PV.bool (decide (IntKind.wrap IntKind.i64 (IntKind.wrap IntKind.i64 (a + (1 : Int)) + (↑(Prod.snd (tkT (List.drop (Int.toNat (IntKind.wrap IntKind.i64 (a + (1 : Int)))) (Array.toList (ByteArray.data s))))) : Int) + (2 : Int)) ≤ (↑(ByteArray.size s) : Int)))], [])) (k (PV.tuple [PV.agg [PV.int IntKind.i64 (IntKind.wrap IntKind.i64 (IntKind.wrap IntKind.i64 (↑(UInt8.toNat (List.getD (Array.toList (ByteArray.data s)) (Int.toNat a) (0 : UInt8))) : Int) - (1 : Int))), PV.int IntKind.i64 (0 : Int), PV.str (bl (Prod.fst (tkT (List.drop (Int.toNat (IntKind.wrap IntKind.i64 (a + (1 : Int)))) (Array.toList (ByteArray.data s))))))], PV.int IntKind.i64 (IntKind.wrap IntKind.i64 (IntKind.wrap IntKind.i64 (a + (1 : Int)) + (↑(Prod.snd (tkT (List.drop (Int.toNat (IntKind.wrap IntKind.i64 (a + (1 : Int)))) (Array.toList (ByteArray.data s))))) : Int) + (2 : Int))), PV.bool false], []))) none) (br (mayV (IntKind.wrap IntKind.i64 (IntKind.wrap IntKind.i64 (↑(UInt8.toNat (List.getD (Array.toList (ByteArray.data s)) (Int.toNat a) (0 : UInt8))) : Int) - (1 : Int))) (0 : Int) { data := #[] }) (k (PV.tuple [PV.agg [PV.int IntKind.i64 (IntKind.wrap IntKind.i64 (IntKind.wrap IntKind.i64 (↑(UInt8.toNat (List.getD (Array.toList (ByteArray.data s)) (Int.toNat a) (0 : UInt8))) : Int) - (1 : Int))), PV.int IntKind.i64 (0 : Int), PV.str { data := #[] }], PV.int IntKind.i64 (IntKind.wrap IntKind.i64 (a + (1 : Int))), PV.bool (decide (IntKind.wrap IntKind.i64 (a + (1 : Int)) ≤ (↑(ByteArray.size s) : Int)))], [])) (k (PV.tuple [PV.agg [PV.int IntKind.i64 (IntKind.wrap IntKind.i64 (IntKind.wrap IntKind.i64 (↑(UInt8.toNat (List.getD (Array.toList (ByteArray.data s)) (Int.toNat a) (0 : UInt8))) : Int) - (1 : Int))), PV.int IntKind.i64 (0 : Int), PV.str { data := #[] }], PV.int IntKind.i64 (IntKind.wrap IntKind.i64 (a + (1 : Int))), PV.bool false], [])))))) (br (IntKind.wrap IntKind.i64 (IntKind.wrap IntKind.i64 (↑(UInt8.toNat (List.getD (Array.toList (ByteArray.data s)) (Int.toNat a) (0 : UInt8))) : Int) - (1 : Int)) == (2 : Int)) (br (decide (IntKind.wrap IntKind.i64 (IntKind.wrap IntKind.i64 (a + (1 : Int)) + (8 : Int)) ≤ (↑(ByteArray.size s) : Int))) (br (decide ((0 : Int) ≤ IntKind.wrap IntKind.i64 (IntKind.wrap IntKind.i64 (a + (1 : Int)) + (0 : Int)) ∧ IntKind.wrap IntKind.i64 (IntKind.wrap IntKind.i64 (a + (1 : Int)) + (0 : Int)) < (↑(ByteArray.size s) : Int))) (br (decide ((0 : Int) ≤ IntKind.wrap IntKind.i64 (IntKind.wrap IntKind.i64 (a + (1 : Int)) + (1 : Int)) ∧ IntKind.wrap IntKind.i64 (IntKind.wrap IntKind.i64 (a + (1 : Int)) + (1 : Int)) < (↑(ByteArray.size s) : Int))) (br (decide ((0 : Int) ≤ IntKind.wrap IntKind.i64 (IntKind.wrap IntKind.i64 (a + (1 : Int)) + (2 : Int)) ∧ IntKind.wrap IntKind.i64 (IntKind.wrap IntKind.i64 (a + (1 : Int)) + (2 : Int)) < (↑(ByteArray.size s) : Int))) (br (decide ((0 : Int) ≤ IntKind.wrap IntKind.i64 (IntKind.wrap IntKind.i64 (a + (1 : Int)) + (3 : Int)) ∧ IntKind.wrap IntKind.i64 (IntKind.wrap IntKind.i64 (a + (1 : Int)) + (3 : Int)) < (↑(ByteArray.size s) : Int))) (br (decide ((0 : Int) ≤ IntKind.wrap IntKind.i64 (IntKind.wrap IntKind.i64 (a + (1 : Int)) + (4 : Int)) ∧ IntKind.wrap IntKind.i64 (IntKind.wrap IntKind.i64 (a + (1 : Int)) + (4 : Int)) < (↑(ByteArray.size s) : Int))) (br (decide ((0 : Int) ≤ IntKind.wrap IntKind.i64 (IntKind.wrap IntKind.i64 (a + (1 : Int)) + (5 : Int)) ∧ IntKind.wrap IntKind.i64 (IntKind.wrap IntKind.i64 (a + (1 : Int)) + (5 : Int)) < (↑(ByteArray.size s) : Int))) (br (decide ((0 : Int) ≤ IntKind.wrap IntKind.i64 (IntKind.wrap IntKind.i64 (a + (1 : Int)) + (6 : Int)) ∧ IntKind.wrap IntKind.i64 (IntKind.wrap IntKind.i64 (a + (1 : Int)) + (6 : Int)) < (↑(ByteArray.size s) : Int))) (br (decide ((0 : Int) ≤ IntKind.wrap IntKind.i64 (IntKind.wrap IntKind.i64 (a + (1 : Int)) + (7 : Int)) ∧ IntKind.wrap IntKind.i64 (IntKind.wrap IntKind.i64 (a + (1 : Int)) + (7 : Int)) < (↑(ByteArray.size s) : Int))) (br (IntKind.wrap IntKind.i64 (IntKind.wrap IntKind.i64 (↑(UInt8.toNat (List.getD (Array.toList (ByteArray.data s)) (Int.toNat a) (0 : UInt8))) : Int) - (1 : Int)) == (3 : Int)) (br (decide (ByteArray.size s ≤ 99999999 ∧ (0 : Int) ≤ IntKind.wrap IntKind.i64 (IntKind.wrap IntKind.i64 (a + (1 : Int)) + (8 : Int)) ∧ IntKind.wrap IntKind.i64 (IntKind.wrap IntKind.i64 (a + (1 : Int)) + (8 : Int)) ≤ (↑(ByteArray.size s) : Int) ∧ 0 = 0 ∧ 0 = 0)) (br (mayV (IntKind.wrap IntKind.i64 (IntKind.wrap IntKind.i64 (↑(UInt8.toNat (List.getD (Array.toList (ByteArray.data s)) (Int.toNat a) (0 : UInt8))) : Int) - (1 : Int))) (IntKind.wrap IntKind.i64 (IntKind.wrap IntKind.u64 (IntKind.wrap IntKind.u64 (IntKind.wrap IntKind.u64 ((256 : Int) * IntKind.wrap IntKind.u64 (IntKind.wrap IntKind.u64 ((256 : Int) * IntKind.wrap IntKind.u64 (IntKind.wrap IntKind.u64 ((256 : Int) * IntKind.wrap IntKind.u64 (IntKind.wrap IntKind.u64 ((256 : Int) * IntKind.wrap IntKind.u64 (IntKind.wrap IntKind.u64 ((256 : Int) * IntKind.wrap IntKind.u64 (IntKind.wrap IntKind.u64 ((256 : Int) * IntKind.wrap IntKind.u64 (IntKind.wrap IntKind.u64 ((256 : Int) * IntKind.wrap IntKind.u64 ((0 : Int) + IntKind.wrap IntKind.u64 (↑(UInt8.toNat (List.getD (Array.toList (ByteArray.data s)) (Int.toNat (IntKind.wrap IntKind.i64 (IntKind.wrap IntKind.i64 (a + (1 : Int)) + (0 : Int)))) (0 : UInt8))) : Int))) + IntKind.wrap IntKind.u64 (↑(UInt8.toNat (List.getD (Array.toList (ByteArray.data s)) (Int.toNat (IntKind.wrap IntKind.i64 (IntKind.wrap IntKind.i64 (a + (1 : Int)) + (1 : Int)))) (0 : UInt8))) : Int))) + IntKind.wrap IntKind.u64 (↑(UInt8.toNat (List.getD (Array.toList (ByteArray.data s)) (Int.toNat (IntKind.wrap IntKind.i64 (IntKind.wrap IntKind.i64 (a + (1 : Int)) + (2 : Int)))) (0 : UInt8))) : Int))) + IntKind.wrap IntKind.u64 (↑(UInt8.toNat (List.getD (Array.toList (ByteArray.data s)) (Int.toNat (IntKind.wrap IntKind.i64 (IntKind.wrap IntKind.i64 (a + (1 : Int)) + (3 : Int)))) (0 : UInt8))) : Int))) + IntKind.wrap IntKind.u64 (↑(UInt8.toNat (List.getD (Array.toList (ByteArray.data s)) (Int.toNat (IntKind.wrap IntKind.i64 (IntKind.wrap IntKind.i64 (a + (1 : Int)) + (4 : Int)))) (0 : UInt8))) : Int))) + IntKind.wrap IntKind.u64 (↑(UInt8.toNat (List.getD (Array.toList (ByteArray.data s)) (Int.toNat (IntKind.wrap IntKind.i64 (IntKind.wrap IntKind.i64 (a + (1 : Int)) + (5 : Int)))) (0 : UInt8))) : Int))) + IntKind.wrap IntKind.u64 (↑(UInt8.toNat (List.getD (Array.toList (ByteArray.data s)) (Int.toNat (IntKind.wrap IntKind.i64 (IntKind.wrap IntKind.i64 (a + (1 : Int)) + (6 : Int)))) (0 : UInt8))) : Int))) + IntKind.wrap IntKind.u64 (↑(UInt8.toNat (List.getD (Array.toList (ByteArray.data s)) (Int.toNat (IntKind.wrap IntKind.i64 (IntKind.wrap IntKind.i64 (a + (1 : Int)) + (7 : Int)))) (0 : UInt8))) : Int)) - (9223372036854775808 : Int)))) (bl (Prod.fst (tkT (List.drop (Int.toNat (IntKind.wrap IntKind.i64 (IntKind.wrap IntKind.i64 (a + (1 : Int)) + (8 : Int)))) (Array.toList (ByteArray.data s))))))) (k (PV.tuple [PV.agg [PV.int IntKind.i64 (IntKind.wrap IntKind.i64 (IntKind.wrap IntKind.i64 (↑(UInt8.toNat (List.getD (Array.toList (ByteArray.data s)) (Int.toNat a) (0 : UInt8))) : Int) - (1 : Int))), PV.int IntKind.i64 (IntKind.wrap IntKind.i64 (IntKind.wrap IntKind.u64 (IntKind.wrap IntKind.u64 (IntKind.wrap IntKind.u64 ((256 : Int) * IntKind.wrap IntKind.u64 (IntKind.wrap IntKind.u64 ((256 : Int) * IntKind.wrap IntKind.u64 (IntKind.wrap IntKind.u64 ((256 : Int) * IntKind.wrap IntKind.u64 (IntKind.wrap IntKind.u64 ((256 : Int) * IntKind.wrap IntKind.u64 (IntKind.wrap IntKind.u64 ((256 : Int) * IntKind.wrap IntKind.u64 (IntKind.wrap IntKind.u64 ((256 : Int) * IntKind.wrap IntKind.u64 (IntKind.wrap IntKind.u64 ((256 : Int) * IntKind.wrap IntKind.u64 ((0 : Int) + IntKind.wrap IntKind.u64 (↑(UInt8.toNat (List.getD (Array.toList (ByteArray.data s)) (Int.toNat (IntKind.wrap IntKind.i64 (IntKind.wrap IntKind.i64 (a + (1 : Int)) + (0 : Int)))) (0 : UInt8))) : Int))) + IntKind.wrap IntKind.u64 (↑(UInt8.toNat (List.getD (Array.toList (ByteArray.data s)) (Int.toNat (IntKind.wrap IntKind.i64 (IntKind.wrap IntKind.i64 (a + (1 : Int)) + (1 : Int)))) (0 : UInt8))) : Int))) + IntKind.wrap IntKind.u64 (↑(UInt8.toNat (List.getD (Array.toList (ByteArray.data s)) (Int.toNat (IntKind.wrap IntKind.i64 (IntKind.wrap IntKind.i64 (a + (1 : Int)) + (2 : Int)))) (0 : UInt8))) : Int))) + IntKind.wrap IntKind.u64 (↑(UInt8.toNat (List.getD (Array.toList (ByteArray.data s)) (Int.toNat (IntKind.wrap IntKind.i64 (IntKind.wrap IntKind.i64 (a + (1 : Int)) + (3 : Int)))) (0 : UInt8))) : Int))) + IntKind.wrap IntKind.u64 (↑(UInt8.toNat (List.getD (Array.toList (ByteArray.data s)) (Int.toNat (IntKind.wrap IntKind.i64 (IntKind.wrap IntKind.i64 (a + (1 : Int)) + (4 : Int)))) (0 : UInt8))) : Int))) + IntKind.wrap IntKind.u64 (↑(UInt8.toNat (List.getD (Array.toList (ByteArray.data s)) (Int.toNat (IntKind.wrap IntKind.i64 (IntKind.wrap IntKind.i64 (a + (1 : Int)) + (5 : Int)))) (0 : UInt8))) : Int))) + IntKind.wrap IntKind.u64 (↑(UInt8.toNat (List.getD (Array.toList (ByteArray.data s)) (Int.toNat (IntKind.wrap IntKind.i64 (IntKind.wrap IntKind.i64 (a + (1 : Int)) + (6 : Int)))) (0 : UInt8))) : Int))) + IntKind.wrap IntKind.u64 (↑(UInt8.toNat (List.getD (Array.toList (ByteArray.data s)) (Int.toNat (IntKind.wrap IntKind.i64 (IntKind.wrap IntKind.i64 (a + (1 : Int)) + (7 : Int)))) (0 : UInt8))) : Int)) - (9223372036854775808 : Int)))), PV.str (bl (Prod.fst (tkT (List.drop (Int.toNat (IntKind.wrap IntKind.i64 (IntKind.wrap IntKind.i64 (a + (1 : Int)) + (8 : Int)))) (Array.toList (ByteArray.data s))))))], PV.int IntKind.i64 (IntKind.wrap IntKind.i64 (IntKind.wrap IntKind.i64 (IntKind.wrap IntKind.i64 (a + (1 : Int)) + (8 : Int)) + (↑(Prod.snd (tkT (List.drop (Int.toNat (IntKind.wrap IntKind.i64 (IntKind.wrap IntKind.i64 (a + (1 : Int)) + (8 : Int)))) (Array.toList (ByteArray.data s))))) : Int) + (2 : Int))), PV.bool (decide (IntKind.wrap IntKind.i64 (IntKind.wrap IntKind.i64 (IntKind.wrap IntKind.i64 (a + (1 : Int)) + (8 : Int)) + (↑(Prod.snd (tkT (List.drop (Int.toNat (IntKind.wrap IntKind.i64 (IntKind.wrap IntKind.i64 (a + (1 : Int)) + (8 : Int)))) (Array.toList (ByteArray.data s))))) : Int) + (2 : Int)) ≤ (↑(ByteArray.size s) : Int)))], [])) (k (PV.tuple [PV.agg [PV.int IntKind.i64 (IntKind.wrap IntKind.i64 (IntKind.wrap IntKind.i64 (↑(UInt8.toNat (List.getD (Array.toList (ByteArray.data s)) (Int.toNat a) (0 : UInt8))) : Int) - (1 : Int))), PV.int IntKind.i64 (IntKind.wrap IntKind.i64 (IntKind.wrap IntKind.u64 (IntKind.wrap IntKind.u64 (IntKind.wrap IntKind.u64 ((256 : Int) * IntKind.wrap IntKind.u64 (IntKind.wrap IntKind.u64 ((256 : Int) * IntKind.wrap IntKind.u64 (IntKind.wrap IntKind.u64 ((256 : Int) * IntKind.wrap IntKind.u64 (IntKind.wrap IntKind.u64 ((256 : Int) * IntKind.wrap IntKind.u64 (IntKind.wrap IntKind.u64 ((256 : Int) * IntKind.wrap IntKind.u64 (IntKind.wrap IntKind.u64 ((256 : Int) * IntKind.wrap IntKind.u64 (IntKind.wrap IntKind.u64 ((256 : Int) * IntKind.wrap IntKind.u64 ((0 : Int) + IntKind.wrap IntKind.u64 (↑(UInt8.toNat (List.getD (Array.toList (ByteArray.data s)) (Int.toNat (IntKind.wrap IntKind.i64 (IntKind.wrap IntKind.i64 (a + (1 : Int)) + (0 : Int)))) (0 : UInt8))) : Int))) + IntKind.wrap IntKind.u64 (↑(UInt8.toNat (List.getD (Array.toList (ByteArray.data s)) (Int.toNat (IntKind.wrap IntKind.i64 (IntKind.wrap IntKind.i64 (a + (1 : Int)) + (1 : Int)))) (0 : UInt8))) : Int))) + IntKind.wrap IntKind.u64 (↑(UInt8.toNat (List.getD (Array.toList (ByteArray.data s)) (Int.toNat (IntKind.wrap IntKind.i64 (IntKind.wrap IntKind.i64 (a + (1 : Int)) + (2 : Int)))) (0 : UInt8))) : Int))) + IntKind.wrap IntKind.u64 (↑(UInt8.toNat (List.getD (Array.toList (ByteArray.data s)) (Int.toNat (IntKind.wrap IntKind.i64 (IntKind.wrap IntKind.i64 (a + (1 : Int)) + (3 : Int)))) (0 : UInt8))) : Int))) + IntKind.wrap IntKind.u64 (↑(UInt8.toNat (List.getD (Array.toList (ByteArray.data s)) (Int.toNat (IntKind.wrap IntKind.i64 (IntKind.wrap IntKind.i64 (a + (1 : Int)) + (4 : Int)))) (0 : UInt8))) : Int))) + IntKind.wrap IntKind.u64 (↑(UInt8.toNat (List.getD (Array.toList (ByteArray.data s)) (Int.toNat (IntKind.wrap IntKind.i64 (IntKind.wrap IntKind.i64 (a + (1 : Int)) + (5 : Int)))) (0 : UInt8))) : Int))) + IntKind.wrap IntKind.u64 (↑(UInt8.toNat (List.getD (Array.toList (ByteArray.data s)) (Int.toNat (IntKind.wrap IntKind.i64 (IntKind.wrap IntKind.i64 (a + (1 : Int)) + (6 : Int)))) (0 : UInt8))) : Int))) + IntKind.wrap IntKind.u64 (↑(UInt8.toNat (List.getD (Array.toList (ByteArray.data s)) (Int.toNat (IntKind.wrap IntKind.i64 (IntKind.wrap IntKind.i64 (a + (1 : Int)) + (7 : Int)))) (0 : UInt8))) : Int)) - (9223372036854775808 : Int)))), PV.str (bl (Prod.fst (tkT (List.drop (Int.toNat (IntKind.wrap IntKind.i64 (IntKind.wrap IntKind.i64 (a + (1 : Int)) + (8 : Int)))) (Array.toList (ByteArray.data s))))))], PV.int IntKind.i64 (IntKind.wrap IntKind.i64 (IntKind.wrap IntKind.i64 (IntKind.wrap IntKind.i64 (a + (1 : Int)) + (8 : Int)) + (↑(Prod.snd (tkT (List.drop (Int.toNat (IntKind.wrap IntKind.i64 (IntKind.wrap IntKind.i64 (a + (1 : Int)) + (8 : Int)))) (Array.toList (ByteArray.data s))))) : Int) + (2 : Int))), PV.bool false], []))) none) (br (mayV (IntKind.wrap IntKind.i64 (IntKind.wrap IntKind.i64 (↑(UInt8.toNat (List.getD (Array.toList (ByteArray.data s)) (Int.toNat a) (0 : UInt8))) : Int) - (1 : Int))) (IntKind.wrap IntKind.i64 (IntKind.wrap IntKind.u64 (IntKind.wrap IntKind.u64 (IntKind.wrap IntKind.u64 ((256 : Int) * IntKind.wrap IntKind.u64 (IntKind.wrap IntKind.u64 ((256 : Int) * IntKind.wrap IntKind.u64 (IntKind.wrap IntKind.u64 ((256 : Int) * IntKind.wrap IntKind.u64 (IntKind.wrap IntKind.u64 ((256 : Int) * IntKind.wrap IntKind.u64 (IntKind.wrap IntKind.u64 ((256 : Int) * IntKind.wrap IntKind.u64 (IntKind.wrap IntKind.u64 ((256 : Int) * IntKind.wrap IntKind.u64 (IntKind.wrap IntKind.u64 ((256 : Int) * IntKind.wrap IntKind.u64 ((0 : Int) + IntKind.wrap IntKind.u64 (↑(UInt8.toNat (List.getD (Array.toList (ByteArray.data s)) (Int.toNat (IntKind.wrap IntKind.i64 (IntKind.wrap IntKind.i64 (a + (1 : Int)) + (0 : Int)))) (0 : UInt8))) : Int))) + IntKind.wrap IntKind.u64 (↑(UInt8.toNat (List.getD (Array.toList (ByteArray.data s)) (Int.toNat (IntKind.wrap IntKind.i64 (IntKind.wrap IntKind.i64 (a + (1 : Int)) + (1 : Int)))) (0 : UInt8))) : Int))) + IntKind.wrap IntKind.u64 (↑(UInt8.toNat (List.getD (Array.toList (ByteArray.data s)) (Int.toNat (IntKind.wrap IntKind.i64 (IntKind.wrap IntKind.i64 (a + (1 : Int)) + (2 : Int)))) (0 : UInt8))) : Int))) + IntKind.wrap IntKind.u64 (↑(UInt8.toNat (List.getD (Array.toList (ByteArray.data s)) (Int.toNat (IntKind.wrap IntKind.i64 (IntKind.wrap IntKind.i64 (a + (1 : Int)) + (3 : Int)))) (0 : UInt8))) : Int))) + IntKind.wrap IntKind.u64 (↑(UInt8.toNat (List.getD (Array.toList (ByteArray.data s)) (Int.toNat (IntKind.wrap IntKind.i64 (IntKind.wrap IntKind.i64 (a + (1 : Int)) + (4 : Int)))) (0 : UInt8))) : Int))) + IntKind.wrap IntKind.u64 (↑(UInt8.toNat (List.getD (Array.toList (ByteArray.data s)) (Int.toNat (IntKind.wrap IntKind.i64 (IntKind.wrap IntKind.i64 (a + (1 : Int)) + (5 : Int)))) (0 : UInt8))) : Int))) + IntKind.wrap IntKind.u64 (↑(UInt8.toNat (List.getD (Array.toList (ByteArray.data s)) (Int.toNat (IntKind.wrap IntKind.i64 (IntKind.wrap IntKind.i64 (a + (1 : Int)) + (6 : Int)))) (0 : UInt8))) : Int))) + IntKind.wrap IntKind.u64 (↑(UInt8.toNat (List.getD (Array.toList (ByteArray.data s)) (Int.toNat (IntKind.wrap IntKind.i64 (IntKind.wrap IntKind.i64 (a + (1 : Int)) + (7 : Int)))) (0 : UInt8))) : Int)) - (9223372036854775808 : Int)))) { data := #[] }) (k (PV.tuple [PV.agg [PV.int IntKind.i64 (IntKind.wrap IntKind.i64 (IntKind.wrap IntKind.i64 (↑(UInt8.toNat (List.getD (Array.toList (ByteArray.data s)) (Int.toNat a) (0 : UInt8))) : Int) - (1 : Int))), PV.int IntKind.i64 (IntKind.wrap IntKind.i64 (IntKind.wrap IntKind.u64 (IntKind.wrap IntKind.u64 (IntKind.wrap IntKind.u64 ((256 : Int) * IntKind.wrap IntKind.u64 (IntKind.wrap IntKind.u64 ((256 : Int) * IntKind.wrap IntKind.u64 (IntKind.wrap IntKind.u64 ((256 : Int) * IntKind.wrap IntKind.u64 (IntKind.wrap IntKind.u64 ((256 : Int) * IntKind.wrap IntKind.u64 (IntKind.wrap IntKind.u64 ((256 : Int) * IntKind.wrap IntKind.u64 (IntKind.wrap IntKind.u64 ((256 : Int) * IntKind.wrap IntKind.u64 (IntKind.wrap IntKind.u64 ((256 : Int) * IntKind.wrap IntKind.u64 ((0 : Int) + IntKind.wrap IntKind.u64 (↑(UInt8.toNat (List.getD (Array.toList (ByteArray.data s)) (Int.toNat (IntKind.wrap IntKind.i64 (IntKind.wrap IntKind.i64 (a + (1 : Int)) + (0 : Int)))) (0 : UInt8))) : Int))) + IntKind.wrap IntKind.u64 (↑(UInt8.toNat (List.getD (Array.toList (ByteArray.data s)) (Int.toNat (IntKind.wrap IntKind.i64 (IntKind.wrap IntKind.i64 (a + (1 : Int)) + (1 : Int)))) (0 : UInt8))) : Int))) + IntKind.wrap IntKind.u64 (↑(UInt8.toNat (List.getD (Array.toList (ByteArray.data s)) (Int.toNat (IntKind.wrap IntKind.i64 (IntKind.wrap IntKind.i64 (a + (1 : Int)) + (2 : Int)))) (0 : UInt8))) : Int))) + IntKind.wrap IntKind.u64 (↑(UInt8.toNat (List.getD (Array.toList (ByteArray.data s)) (Int.toNat (IntKind.wrap IntKind.i64 (IntKind.wrap IntKind.i64 (a + (1 : Int)) + (3 : Int)))) (0 : UInt8))) : Int))) + IntKind.wrap IntKind.u64 (↑(UInt8.toNat (List.getD (Array.toList (ByteArray.data s)) (Int.toNat (IntKind.wrap IntKind.i64 (IntKind.wrap IntKind.i64 (a + (1 : Int)) + (4 : Int)))) (0 : UInt8))) : Int))) + IntKind.wrap IntKind.u64 (↑(UInt8.toNat (List.getD (Array.toList (ByteArray.data s)) (Int.toNat (IntKind.wrap IntKind.i64 (IntKind.wrap IntKind.i64 (a + (1 : Int)) + (5 : Int)))) (0 : UInt8))) : Int))) + IntKind.wrap IntKind.u64 (↑(UInt8.toNat (List.getD (Array.toList (ByteArray.data s)) (Int.toNat (IntKind.wrap IntKind.i64 (IntKind.wrap IntKind.i64 (a + (1 : Int)) + (6 : Int)))) (0 : UInt8))) : Int))) + IntKind.wrap IntKind.u64 (↑(UInt8.toNat (List.getD (Array.toList (ByteArray.data s)) (Int.toNat (IntKind.wrap IntKind.i64 (IntKind.wrap IntKind.i64 (a + (1 : Int)) + (7 : Int)))) (0 : UInt8))) : Int)) - (9223372036854775808 : Int)))), PV.str { data := #[] }], PV.int IntKind.i64 (IntKind.wrap IntKind.i64 (IntKind.wrap IntKind.i64 (a + (1 : Int)) + (8 : Int))), PV.bool (decide (IntKind.wrap IntKind.i64 (IntKind.wrap IntKind.i64 (a + (1 : Int)) + (8 : Int)) ≤ (↑(ByteArray.size s) : Int)))], [])) (k (PV.tuple [PV.agg [PV.int IntKind.i64 (IntKind.wrap IntKind.i64 (IntKind.wrap IntKind.i64 (↑(UInt8.toNat (List.getD (Array.toList (ByteArray.data s)) (Int.toNat a) (0 : UInt8))) : Int) - (1 : Int))), PV.int IntKind.i64 (IntKind.wrap IntKind.i64 (IntKind.wrap IntKind.u64 (IntKind.wrap IntKind.u64 (IntKind.wrap IntKind.u64 ((256 : Int) * IntKind.wrap IntKind.u64 (IntKind.wrap IntKind.u64 ((256 : Int) * IntKind.wrap IntKind.u64 (IntKind.wrap IntKind.u64 ((256 : Int) * IntKind.wrap IntKind.u64 (IntKind.wrap IntKind.u64 ((256 : Int) * IntKind.wrap IntKind.u64 (IntKind.wrap IntKind.u64 ((256 : Int) * IntKind.wrap IntKind.u64 (IntKind.wrap IntKind.u64 ((256 : Int) * IntKind.wrap IntKind.u64 (IntKind.wrap IntKind.u64 ((256 : Int) * IntKind.wrap IntKind.u64 ((0 : Int) + IntKind.wrap IntKind.u64 (↑(UInt8.toNat (List.getD (Array.toList (ByteArray.data s)) (Int.toNat (IntKind.wrap IntKind.i64 (IntKind.wrap IntKind.i64 (a + (1 : Int)) + (0 : Int)))) (0 : UInt8))) : Int))) + IntKind.wrap IntKind.u64 (↑(UInt8.toNat (List.getD (Array.toList (ByteArray.data s)) (Int.toNat (IntKind.wrap IntKind.i64 (IntKind.wrap IntKind.i64 (a + (1 : Int)) + (1 : Int)))) (0 : UInt8))) : Int))) + IntKind.wrap IntKind.u64 (↑(UInt8.toNat (List.getD (Array.toList (ByteArray.data s)) (Int.toNat (IntKind.wrap IntKind.i64 (IntKind.wrap IntKind.i64 (a + (1 : Int)) + (2 : Int)))) (0 : UInt8))) : Int))) + IntKind.wrap IntKind.u64 (↑(UInt8.toNat (List.getD (Array.toList (ByteArray.data s)) (Int.toNat (IntKind.wrap IntKind.i64 (IntKind.wrap IntKind.i64 (a + (1 : Int)) + (3 : Int)))) (0 : UInt8))) : Int))) + IntKind.wrap IntKind.u64 (↑(UInt8.toNat (List.getD (Array.toList (ByteArray.data s)) (Int.toNat (IntKind.wrap IntKind.i64 (IntKind.wrap IntKind.i64 (a + (1 : Int)) + (4 : Int)))) (0 : UInt8))) : Int))) + IntKind.wrap IntKind.u64 (↑(UInt8.toNat (List.getD (Array.toList (ByteArray.data s)) (Int.toNat (IntKind.wrap IntKind.i64 (IntKind.wrap IntKind.i64 (a + (1 : Int)) + (5 : Int)))) (0 : UInt8))) : Int))) + IntKind.wrap IntKind.u64 (↑(UInt8.toNat (List.getD (Array.toList (ByteArray.data s)) (Int.toNat (IntKind.wrap IntKind.i64 (IntKind.wrap IntKind.i64 (a + (1 : Int)) + (6 : Int)))) (0 : UInt8))) : Int))) + IntKind.wrap IntKind.u64 (↑(UInt8.toNat (List.getD (Array.toList (ByteArray.data s)) (Int.toNat (IntKind.wrap IntKind.i64 (IntKind.wrap IntKind.i64 (a + (1 : Int)) + (7 : Int)))) (0 : UInt8))) : Int)) - (9223372036854775808 : Int)))), PV.str { data := #[] }], PV.int IntKind.i64 (IntKind.wrap IntKind.i64 (IntKind.wrap IntKind.i64 (a + (1 : Int)) + (8 : Int))), PV.bool false], [])))) none) none) none) none) none) none) none) none) (br (IntKind.wrap IntKind.i64 (IntKind.wrap IntKind.i64 (↑(UInt8.toNat (List.getD (Array.toList (ByteArray.data s)) (Int.toNat a) (0 : UInt8))) : Int) - (1 : Int)) == (3 : Int)) (br (decide (ByteArray.size s ≤ 99999999 ∧ (0 : Int) ≤ IntKind.wrap IntKind.i64 (a + (1 : Int)) ∧ IntKind.wrap IntKind.i64 (a + (1 : Int)) ≤ (↑(ByteArray.size s) : Int) ∧ 0 = 0 ∧ 0 = 0)) (br (mayV (IntKind.wrap IntKind.i64 (IntKind.wrap IntKind.i64 (↑(UInt8.toNat (List.getD (Array.toList (ByteArray.data s)) (Int.toNat a) (0 : UInt8))) : Int) - (1 : Int))) (0 : Int) (bl (Prod.fst (tkT (List.drop (Int.toNat (IntKind.wrap IntKind.i64 (a + (1 : Int)))) (Array.toList (ByteArray.data s))))))) (k (PV.tuple [PV.agg [PV.int IntKind.i64 (IntKind.wrap IntKind.i64 (IntKind.wrap IntKind.i64 (↑(UInt8.toNat (List.getD (Array.toList (ByteArray.data s)) (Int.toNat a) (0 : UInt8))) : Int) - (1 : Int))), PV.int IntKind.i64 (0 : Int), PV.str (bl (Prod.fst (tkT (List.drop (Int.toNat (IntKind.wrap IntKind.i64 (a + (1 : Int)))) (Array.toList (ByteArray.data s))))))], PV.int IntKind.i64 (IntKind.wrap IntKind.i64 (IntKind.wrap IntKind.i64 (a + (1 : Int)) + (↑(Prod.snd (tkT (List.drop (Int.toNat (IntKind.wrap IntKind.i64 (a + (1 : Int)))) (Array.toList (ByteArray.data s))))) : Int) + (2 : Int))), PV.bool (decide (IntKind.wrap IntKind.i64 (IntKind.wrap IntKind.i64 (a + (1 : Int)) + (↑(Prod.snd (tkT (List.drop (Int.toNat (IntKind.wrap IntKind.i64 (a + (1 : Int)))) (Array.toList (ByteArray.data s))))) : Int) + (2 : Int)) ≤ (↑(ByteArray.size s) : Int)))], [])) (k (PV.tuple [PV.agg [PV.int IntKind.i64 (IntKind.wrap IntKind.i64 (IntKind.wrap IntKind.i64 (↑(UInt8.toNat (List.getD (Array.toList (ByteArray.data s)) (Int.toNat a) (0 : UInt8))) : Int) - (1 : Int))), PV.int IntKind.i64 (0 : Int), PV.str (bl (Prod.fst (tkT (List.drop (Int.toNat (IntKind.wrap IntKind.i64 (a + (1 : Int)))) (Array.toList (ByteArray.data s))))))], PV.int IntKind.i64 (IntKind.wrap IntKind.i64 (IntKind.wrap IntKind.i64 (a + (1 : Int)) + (↑(Prod.snd (tkT (List.drop (Int.toNat (IntKind.wrap IntKind.i64 (a + (1 : Int)))) (Array.toList (ByteArray.data s))))) : Int) + (2 : Int))), PV.bool false], []))) none) (br (mayV (IntKind.wrap IntKind.i64 (IntKind.wrap IntKind.i64 (↑(UInt8.toNat (List.getD (Array.toList (ByteArray.data s)) (Int.toNat a) (0 : UInt8))) : Int) - (1 : Int))) (0 : Int) { data := #[] }) (k (PV.tuple [PV.agg [PV.int IntKind.i64 (IntKind.wrap IntKind.i64 (IntKind.wrap IntKind.i64 (↑(UInt8.toNat (List.getD (Array.toList (ByteArray.data s)) (Int.toNat a) (0 : UInt8))) : Int) - (1 : Int))), PV.int IntKind.i64 (0 : Int), PV.str { data := #[] }], PV.int IntKind.i64 (IntKind.wrap IntKind.i64 (a + (1 : Int))), PV.bool (decide (IntKind.wrap IntKind.i64 (a + (1 : Int)) ≤ (↑(ByteArray.size s) : Int)))], [])) (k (PV.tuple [PV.agg [PV.int IntKind.i64 (IntKind.wrap IntKind.i64 (IntKind.wrap IntKind.i64 (↑(UInt8.toNat (List.getD (Array.toList (ByteArray.data s)) (Int.toNat a) (0 : UInt8))) : Int) - (1 : Int))), PV.int IntKind.i64 (0 : Int), PV.str { data := #[] }], PV.int IntKind.i64 (IntKind.wrap IntKind.i64 (a + (1 : Int))), PV.bool false], []))))) (br (IntKind.wrap IntKind.i64 (IntKind.wrap IntKind.i64 (↑(UInt8.toNat (List.getD (Array.toList (ByteArray.data s)) (Int.toNat a) (0 : UInt8))) : Int) - (1 : Int)) == (3 : Int)) (br (decide (ByteArray.size s ≤ 99999999 ∧ (0 : Int) ≤ IntKind.wrap IntKind.i64 (a + (1 : Int)) ∧ IntKind.wrap IntKind.i64 (a + (1 : Int)) ≤ (↑(ByteArray.size s) : Int) ∧ 0 = 0 ∧ 0 = 0)) (br (mayV (IntKind.wrap IntKind.i64 (IntKind.wrap IntKind.i64 (↑(UInt8.toNat (List.getD (Array.toList (ByteArray.data s)) (Int.toNat a) (0 : UInt8))) : Int) - (1 : Int))) (0 : Int) (bl (Prod.fst (tkT (List.drop (Int.toNat (IntKind.wrap IntKind.i64 (a + (1 : Int)))) (Array.toList (ByteArray.data s))))))) (k (PV.tuple [PV.agg [PV.int IntKind.i64 (IntKind.wrap IntKind.i64 (IntKind.wrap IntKind.i64 (↑(UInt8.toNat (List.getD (Array.toList (ByteArray.data s)) (Int.toNat a) (0 : UInt8))) : Int) - (1 : Int))), PV.int IntKind.i64 (0 : Int), PV.str (bl (Prod.fst (tkT (List.drop (Int.toNat (IntKind.wrap IntKind.i64 (a + (1 : Int)))) (Array.toList (ByteArray.data s))))))], PV.int IntKind.i64 (IntKind.wrap IntKind.i64 (IntKind.wrap IntKind.i64 (a + (1 : Int)) + (↑(Prod.snd (tkT (List.drop (Int.toNat (IntKind.wrap IntKind.i64 (a + (1 : Int)))) (Array.toList (ByteArray.data s))))) : Int) + (2 : Int))), PV.bool (decide (IntKind.wrap IntKind.i64 (IntKind.wrap IntKind.i64 (a + (1 : Int)) + (↑(Prod.snd (tkT (List.drop (Int.toNat (IntKind.wrap IntKind.i64 (a + (1 : Int)))) (Array.toList (ByteArray.data s))))) : Int) + (2 : Int)) ≤ (↑(ByteArray.size s) : Int)))], [])) (k (PV.tuple [PV.agg [PV.int IntKind.i64 (IntKind.wrap IntKind.i64 (IntKind.wrap IntKind.i64 (↑(UInt8.toNat (List.getD (Array.toList (ByteArray.data s)) (Int.toNat a) (0 : UInt8))) : Int) - (1 : Int))), PV.int IntKind.i64 (0 : Int), PV.str (bl (Prod.fst (tkT (List.drop (Int.toNat (IntKind.wrap IntKind.i64 (a + (1 : Int)))) (Array.toList (ByteArray.data s))))))], PV.int IntKind.i64 (IntKind.wrap IntKind.i64 (IntKind.wrap IntKind.i64 (a + (1 : Int)) + (↑(Prod.snd (tkT (List.drop (Int.toNat (IntKind.wrap IntKind.i64 (a + (1 : Int)))) (Array.toList (ByteArray.data s))))) : Int) + (2 : Int))), PV.bool false], []))) none) (br (mayV (IntKind.wrap IntKind.i64 (IntKind.wrap IntKind.i64 (↑(UInt8.toNat (List.getD (Array.toList (ByteArray.data s)) (Int.toNat a) (0 : UInt8))) : Int) - (1 : Int))) (0 : Int) { data := #[] }) (k (PV.tuple [PV.agg [PV.int IntKind.i64 (IntKind.wrap IntKind.i64 (IntKind.wrap IntKind.i64 (↑(UInt8.toNat (List.getD (Array.toList (ByteArray.data s)) (Int.toNat a) (0 : UInt8))) : Int) - (1 : Int))), PV.int IntKind.i64 (0 : Int), PV.str { data := #[] }], PV.int IntKind.i64 (IntKind.wrap IntKind.i64 (a + (1 : Int))), PV.bool (decide (IntKind.wrap IntKind.i64 (a + (1 : Int)) ≤ (↑(ByteArray.size s) : Int)))], [])) (k (PV.tuple [PV.agg [PV.int IntKind.i64 (IntKind.wrap IntKind.i64 (IntKind.wrap IntKind.i64 (↑(UInt8.toNat (List.getD (Array.toList (ByteArray.data s)) (Int.toNat a) (0 : UInt8))) : Int) - (1 : Int))), PV.int IntKind.i64 (0 : Int), PV.str { data := #[] }], PV.int IntKind.i64 (IntKind.wrap IntKind.i64 (a + (1 : Int))), PV.bool false], [])))))) none := by
  rw [← callF_eq]; kernel_rfl

end Go.Proofs.Ytnnogckknlgeiaa
end

section
/- The Key program: how leveeref02 takes a text, told. -/
set_option linter.unusedVariables false
set_option linter.unusedSimpArgs false
namespace Go.Proofs.Ytnnogckknlgeiaa
open Go.Pu

/-- the text; where one is; the value's kind and number; what was taken -/
abbrev TT := ByteArray × Nat × Int × Int × List UInt8

def enc20 (σ : TT) : List PV × Heap :=
  (pl 114 [(0, .str σ.1), (1, .int .i64 (σ.2.1 : Nat)), (4, .ptr 0 0), (7, .ptr 1 0)], [z32, .box 32 [.int .i64 σ.2.2.1, .int .i64 σ.2.2.2.1, .str (bl σ.2.2.2.2)]])

def out20 (σ : TT) : Out :=
  (.exit 2, enc20 (σ.1, σ.2.1 + (tkT (σ.1.data.toList.drop σ.2.1)).2, σ.2.2.1, σ.2.2.2.1, σ.2.2.2.2 ++ (tkT (σ.1.data.toList.drop σ.2.1)).1))

theorem drop_at {l : List UInt8} {a : Nat} (h : a < l.length) : l.drop a = l.getD a 0 :: l.drop (a + 1) := by
  rw [List.drop_eq_getElem_cons h]
  simp [List.getD, h]

def rnd20 (σ : TT) : Out :=
  if σ.2.1 + 1 < σ.1.size then
    (if σ.1.data.toList.getD σ.2.1 0 = 0 then
      (if σ.1.data.toList.getD (σ.2.1 + 1) 0 = 1 then (.exit 2, enc20 σ) else (.normal, enc20 (σ.1, σ.2.1 + 2, σ.2.2.1, σ.2.2.2.1, σ.2.2.2.2 ++ [0])))
    else (.normal, enc20 (σ.1, σ.2.1 + 1, σ.2.2.1, σ.2.2.2.1, σ.2.2.2.2 ++ [σ.1.data.toList.getD σ.2.1 0])))
  else (.exit 2, enc20 σ)

theorem round20 (s : ByteArray) (a : Nat) (v w : Int) (acc : List UInt8) (hs : s.size ≤ 99999999) (ha : a ≤ s.size) (hc : acc.length ≤ 99999999) :
    runK br Try.prog (callK br Try.prog X6 M0 L3 (fun _ _ _ => none) 24) M0 (fun _ => none) 24 0 (L3 20) (bodyOf Try.prog 20 15) (enc20 (s, a, v, w, acc)).1 (enc20 (s, a, v, w, acc)).2 (idc 0 (L3 20) 15) =
      some (rnd20 (s, a, v, w, acc)) := by
  unfold rnd20
  dsimp only
  have hl : s.data.toList.length = s.size := by simp
  have w1 : IntKind.i64.wrap ((a : Int) + 1) = ((a + 1 : Nat) : Int) := by rw [wrap_i64 (by omega) (by omega)]; omega
  have w2 : IntKind.i64.wrap (((a + 1 : Nat) : Int) + 1) = ((a + 2 : Nat) : Int) := by rw [wrap_i64 (by omega) (by omega)]; omega
  refine (rd20 0 v w (a : Nat) s (bl acc) (fun e ts h => some (e, ts, h))).trans ?_
  rw [w1]
  by_cases h1 : a + 1 < s.size
  · rw [if_pos h1]
    refine (if_pos (decide_eq_true (by omega))).trans ((if_pos (decide_eq_true (by omega))).trans ?_)
    have ex : s.extract a (a + 1) = bl [s.data.toList.getD a 0] := by
      rw [extract_bl, drop_at (by omega)]
      have : a + 1 - a = 1 := by omega
      rw [this]; rfl
    rw [Int.toNat_natCast, Int.toNat_natCast, ex, bl_append]
    have sz : decide ((bl acc).size + (bl [s.data.toList.getD a 0]).size ≤ 9223372036854775807) = true := decide_eq_true (by rw [bl_size, bl_size]; simp only [List.length_cons, List.length_nil]; omega)
    by_cases h2 : s.data.toList.getD a 0 = 0
    · rw [if_pos h2]
      have z1 := z_pos (c := 0) (b := s.data.toList.getD a 0) (n := 0) rfl h2
      refine (if_pos z1).trans ((if_pos (decide_eq_true (by omega))).trans ?_)
      by_cases h3 : s.data.toList.getD (a + 1) 0 = 1
      · rw [if_pos h3]
        have z2 := z_pos (c := 1) (b := s.data.toList.getD (a + 1) 0) (n := 1) rfl h3
        refine (if_neg (by rw [z2]; decide)).trans rfl
      · rw [if_neg h3]
        have z2 := z_neg (c := 1) (b := s.data.toList.getD (a + 1) 0) (n := 1) rfl h3
        refine (if_pos (by rw [Bool.not_eq_true']; simpa using z2)).trans ((if_pos (decide_eq_true (by omega))).trans ((if_pos sz).trans ((if_pos (decide_eq_true (by omega))).trans ((if_pos z1).trans ?_))))
        rw [w2, h2]
        rfl
    · rw [if_neg h2]
      have z1 := z_neg (c := 0) (b := s.data.toList.getD a 0) (n := 0) rfl h2
      exact (if_neg z1).trans ((if_pos (decide_eq_true (by omega))).trans ((if_pos sz).trans ((if_pos (decide_eq_true (by omega))).trans ((if_neg z1).trans rfl))))
  · rw [if_neg h1]
    exact (if_neg (by rw [decide_eq_true_eq]; omega)).trans rfl

theorem loop20 {R : Type} : LoopTells Try.prog X6 M0 L3 0 (L3 20) (bodyOf Try.prog 20 15) (g20 (R := R) br) := by
  have hrid : rid (bodyOf Try.prog 20 15) = 15 := by kernel_rfl
  refine loopTells_of (n := 24) (callK0 24) lsok_none (fun σ : TT => σ.1.size ≤ 99999999 ∧ σ.2.1 ≤ σ.1.size ∧ σ.2.2.2.2.length ≤ σ.2.1) enc20 (fun σ => σ.1.size - σ.2.1) out20 ?_ ?_
  · intro ts h c k r hc hk
    rw [hrid] at hc
    unfold g20 at hk
    split at hk
    · rename_i z v w t s a h0 h1 h2 h3 h4 h5
      obtain ⟨hl, hk2⟩ := br_test hk
      clear hk
      simp only [decide_eq_true_eq] at hl
      obtain ⟨l1, l2, l3, l4, l5⟩ := hl
      have ht := bl_of_size l4
      have hz := bl_of_size l5
      subst ht
      subst hz
      obtain ⟨m, rfl⟩ := Int.eq_ofNat_of_zero_le l2
      refine ⟨(s, m, v, w, []), ⟨l1, by dsimp only; omega, Nat.zero_le _⟩, ?_, ?_⟩
      · refine Prod.ext (cleaned_pl hc [(0, .str s), (1, .int .i64 (m : Nat)), (4, .ptr 0 0), (7, .ptr 1 0)] h1 rfl rfl rfl ?_) ?_
        · simp only [List.forall_mem_cons]
          exact ⟨h2, h3, h4, h5, fun _ h => by cases h⟩
        · rw [h0]; rfl
      · have e1 : (Int.ofNat m).toNat = m := rfl
        have e2 : ((m : Int) + ((tkT (s.data.toList.drop m)).2 : Nat)) = ((m + (tkT (s.data.toList.drop m)).2 : Nat) : Int) := by omega
        have hk3 : k (.exit 2) (pl 114 [(0, .str s), (1, .int .i64 ((m : Int) + ((tkT (s.data.toList.drop m)).2 : Nat))), (4, .ptr 0 0), (7, .ptr 1 0)])
            [z32, .box 32 [.int .i64 v, .int .i64 w, .str (bl (tkT (s.data.toList.drop m)).1)]] = some r := hk2
        rw [e2] at hk3
        exact hk3
    · cases hk
  · rintro ⟨s, a, v, w, acc⟩ ⟨h1, h2, h3⟩
    rw [hrid]
    dsimp only at h1 h2 h3
    have hl : s.data.toList.length = s.size := by simp
    have hr := round20 s a v w acc h1 h2 (by omega)
    refine ⟨(rnd20 (s, a, v, w, acc)).1, (rnd20 (s, a, v, w, acc)).2, hr, ?_⟩
    have stay : (tkT (s.data.toList.drop a)) = ([], 0) → out20 (s, a, v, w, acc) = (.exit 2, enc20 (s, a, v, w, acc)) := fun h => by
      unfold out20
      dsimp only
      rw [h]
      simp
    by_cases k1 : a + 1 < s.size
    · have d1 := drop_at (l := s.data.toList) (a := a) (by omega)
      have d2 := drop_at (l := s.data.toList) (a := a + 1) (by omega)
      rw [d2] at d1
      by_cases k2 : s.data.toList.getD a 0 = 0
      · by_cases k3 : s.data.toList.getD (a + 1) 0 = 1
        · have e : rnd20 (s, a, v, w, acc) = (.exit 2, enc20 (s, a, v, w, acc)) := (if_pos k1).trans ((if_pos k2).trans (if_pos k3))
          rw [e]
          refine .inr ⟨by simp, ?_⟩
          rw [stay (by rw [d1, tkT_more, if_pos k2, if_pos k3])]
        · have e : rnd20 (s, a, v, w, acc) = (.normal, enc20 (s, a + 2, v, w, acc ++ [0])) := (if_pos k1).trans ((if_pos k2).trans (if_neg k3))
          rw [e]
          refine .inl ⟨rfl, (s, a + 2, v, w, acc ++ [0]), ⟨h1, by dsimp only; omega, by simp; omega⟩, rfl, by dsimp only; omega, ?_⟩
          unfold out20
          dsimp only
          rw [d1, tkT_more, if_pos k2, if_neg k3]
          rw [show a + 1 + 1 = a + 2 from rfl]
          have : a + ((tkT (s.data.toList.drop (a + 2))).2 + 2) = a + 2 + (tkT (s.data.toList.drop (a + 2))).2 := by omega
          simp only [this, List.append_assoc, List.cons_append, List.nil_append]
      · have e : rnd20 (s, a, v, w, acc) = (.normal, enc20 (s, a + 1, v, w, acc ++ [s.data.toList.getD a 0])) := (if_pos k1).trans (if_neg k2)
        rw [e]
        refine .inl ⟨rfl, (s, a + 1, v, w, acc ++ [s.data.toList.getD a 0]), ⟨h1, by dsimp only; omega, by simp; omega⟩, rfl, by dsimp only; omega, ?_⟩
        unfold out20
        dsimp only
        rw [d1, tkT_more, if_neg k2, ← d2]
        have : a + ((tkT (s.data.toList.drop (a + 1))).2 + 1) = a + 1 + (tkT (s.data.toList.drop (a + 1))).2 := by omega
        simp only [this, List.append_assoc, List.cons_append, List.nil_append]
    · have e : rnd20 (s, a, v, w, acc) = (.exit 2, enc20 (s, a, v, w, acc)) := if_neg k1
      rw [e]
      refine .inr ⟨by simp, ?_⟩
      rw [stay]
      by_cases k2 : a < s.size
      · have d1 := drop_at (l := s.data.toList) (a := a) (by omega)
        rw [List.drop_of_length_le (i := a + 1) (by omega)] at d1
        rw [d1]; rfl
      · rw [List.drop_of_length_le (by omega)]; rfl

end Go.Proofs.Ytnnogckknlgeiaa
end

section
/- The Key program: how leveeref02 takes a value: what is said of it. -/
set_option linter.unusedVariables false
namespace Go.Proofs.Ytnnogckknlgeiaa
open Go.Pu

def stp2 (n : Int) (b : UInt8) : Int := IntKind.u64.wrap (IntKind.u64.wrap (256 * n) + IntKind.u64.wrap ((b.toNat : Nat) : Int))
def num2 (l : List UInt8) : Int := IntKind.i64.wrap (IntKind.u64.wrap (l.foldl stp2 0 - 9223372036854775808))

/-- the value that is taken, and how many bytes it took -/
def tk : List UInt8 → Int × Int × List UInt8 × Nat
  | [] => (0, 0, [], 0)
  | c :: t =>
    if kd c = 1 then (match t with | [] => (kd c, 0, [], 1) | b :: _ => (kd c, IntKind.i64.wrap ((b.toNat : Nat) : Int), [], 2))
    else if kd c = 2 then (match t with | b0 :: b1 :: b2 :: b3 :: b4 :: b5 :: b6 :: b7 :: _ => (kd c, num2 [b0, b1, b2, b3, b4, b5, b6, b7], [], 9) | _ => (kd c, 0, [], 1))
    else if kd c = 3 then (kd c, 0, (tkT t).1, (tkT t).2 + 3)
    else (kd c, 0, [], 1)

def gTake : List PV → List Blk → Tr
  | [.str s, .int .i64 a], [] => .test (decide (s.size ≤ 9999999 ∧ 0 ≤ a ∧ a < s.size))
      (.ret (.tuple [.agg [.int .i64 (tk (s.data.toList.drop a.toNat)).1, .int .i64 (tk (s.data.toList.drop a.toNat)).2.1, .str (bl (tk (s.data.toList.drop a.toNat)).2.2.1)],
        .int .i64 (a + ((tk (s.data.toList.drop a.toNat)).2.2.2 : Nat)),
        .bool (mayV (tk (s.data.toList.drop a.toNat)).1 (tk (s.data.toList.drop a.toNat)).2.1 (bl (tk (s.data.toList.drop a.toNat)).2.2.1) && decide (a + ((tk (s.data.toList.drop a.toNat)).2.2.2 : Nat) ≤ (s.size : Int)))]) []) .fail
  | _, _ => .fail

noncomputable def gDec : List PV → List Blk → Tr
  | [.str s], [] => .test (decide (s.size ≤ 9999999)) (.test (dec s.data.toList).isSome
      (.test (decide ((dec s.data.toList).getD [] = [])) (.ret (.tuple [.nils, .bool true]) []) (.ret (.tuple [.all 0, .bool true]) [.arr 32 ((dec s.data.toList).getD []) true]))
      (.ret (.tuple [.nils, .bool false]) [])) .fail
  | _, _ => .fail

noncomputable def gDecR : List PV → List Blk → Tr
  | [.str s], [] => .test (decide (s.size ≤ 9999999)) (.test (dec s.data.toList).isSome
      (.ret (.tuple [.all 0, .bool true]) [.arr 32 ((dec s.data.toList).getD []) true])
      (.ret (.tuple [.nils, .bool false]) [])) .fail
  | _, _ => .fail

abbrev X7 : Ext := extT [(20, gTake)] X6
noncomputable abbrev X8 : Ext := extT [(10, gDec), (11, gDecR)] X6

end Go.Proofs.Ytnnogckknlgeiaa
end

section
/- The Key program: how leveeref02 takes a value, told. -/
set_option linter.unusedVariables false
set_option linter.unusedSimpArgs false
namespace Go.Proofs.Ytnnogckknlgeiaa
open Go.Pu

theorem tkT_le : ∀ (n : Nat) (l : List UInt8), l.length ≤ n → (tkT l).2 ≤ l.length
  | _, [], _ => Nat.le_refl _
  | _, [_], _ => Nat.zero_le _
  | 0, _ :: _ :: _, h => by simp at h
  | n + 1, b :: c :: r, h => by
    simp only [List.length_cons] at h
    have h1 := tkT_le n r (by omega)
    have h2 := tkT_le n (c :: r) (by simp only [List.length_cons]; omega)
    rw [tkT_more]
    split
    · split
      · exact Nat.zero_le _
      · simp only [List.length_cons]; omega
    · simp only [List.length_cons] at h2 ⊢; omega

theorem leaf20 {R : Type} (k : PV × Heap → Option R) (v w : Int) (x : ByteArray) (nx sz : Int) :
    br (mayV v w x) (k (.tuple [.agg [.int .i64 v, .int .i64 w, .str x], .int .i64 nx, .bool (decide (nx ≤ sz))], []))
      (k (.tuple [.agg [.int .i64 v, .int .i64 w, .str x], .int .i64 nx, .bool false], [])) = k (.tuple [.agg [.int .i64 v, .int .i64 w, .str x], .int .i64 nx, .bool (mayV v w x && decide (nx ≤ sz))], []) := by
  cases mayV v w x <;> rfl

theorem getD_drop (l : List UInt8) (a i : Nat) : (l.drop a).getD i 0 = l.getD (a + i) 0 := by
  simp [List.getD, List.getElem?_drop]

theorem eight {l : List UInt8} (h : 8 ≤ l.length) : ∃ b0 b1 b2 b3 b4 b5 b6 b7 q, l = b0 :: b1 :: b2 :: b3 :: b4 :: b5 :: b6 :: b7 :: q := by
  match l, h with
  | b0 :: b1 :: b2 :: b3 :: b4 :: b5 :: b6 :: b7 :: q, _ => exact ⟨b0, b1, b2, b3, b4, b5, b6, b7, q, rfl⟩

theorem tk_short {c : UInt8} {t : List UInt8} (k1 : ¬ kd c = 1) (k2 : kd c = 2) (h : t.length < 8) : tk (c :: t) = (kd c, 0, [], 1) := by
  refine (if_neg k1).trans ((if_pos k2).trans ?_)
  match t, h with
  | b0 :: b1 :: b2 :: b3 :: b4 :: b5 :: b6 :: b7 :: q, h => simp only [List.length_cons] at h; omega
  | [], _ => rfl
  | [_], _ => rfl
  | [_, _], _ => rfl
  | [_, _, _], _ => rfl
  | [_, _, _, _], _ => rfl
  | [_, _, _, _, _], _ => rfl
  | [_, _, _, _, _, _], _ => rfl
  | [_, _, _, _, _, _, _], _ => rfl

theorem ls7_ok {R : Type} : LoopsOK (R := R) Try.prog X6 M0 L3 (LS7 br) := loopsOK_list rids fun e h => by
  simp only [List.mem_cons, List.not_mem_nil, or_false] at h
  subst h
  exact loop20

set_option maxHeartbeats 2000000 in
theorem tells20 : Tells Try.prog X6 M0 L3 (LS7 br) 20 gTake := by
  intro zs hc r hg
  unfold gTake at hg
  split at hg
  · rename_i s a
    obtain ⟨h1, rfl⟩ := val_test hg
    simp only [decide_eq_true_eq] at h1
    obtain ⟨hs, ha, hlt⟩ := h1
    obtain ⟨m, rfl⟩ := Int.eq_ofNat_of_zero_le ha
    have hl : s.data.toList.length = s.size := by simp
    have hd := drop_at (l := s.data.toList) (a := m) (by omega)
    have W1 : IntKind.i64.wrap ((m : Int) + 1) = ((m + 1 : Nat) : Int) := by rw [wrap_i64 (by omega) (by omega)]; omega
    have W2 : IntKind.i64.wrap (((m + 1 : Nat) : Int) + 1) = ((m + 2 : Nat) : Int) := by rw [wrap_i64 (by omega) (by omega)]; omega
    rw [Int.toNat_natCast, hd]
    refine ⟨24, (ev20 0 s (m : Int) _).trans ((if_pos (decide_eq_true ⟨by omega, by omega⟩)).trans ?_)⟩
    have no : ∀ {x : Int}, ¬ kd (s.data.toList.getD m 0) = x → ¬ (kd (s.data.toList.getD m 0) == x) = true := fun h g => h (beq_iff_eq.1 g)
    by_cases k1 : kd (s.data.toList.getD m 0) = 1
    · have k2 : ¬ kd (s.data.toList.getD m 0) = 2 := by rw [k1]; decide
      have k3 : ¬ kd (s.data.toList.getD m 0) = 3 := by rw [k1]; decide
      refine (if_pos (show (kd (s.data.toList.getD m 0) == 1) = true from beq_iff_eq.2 k1)).trans ?_
      by_cases hm : m + 1 < s.size
      · have hd2 := drop_at (l := s.data.toList) (a := m + 1) (by omega)
        have e : tk (s.data.toList.getD m 0 :: s.data.toList.drop (m + 1)) = (kd (s.data.toList.getD m 0), IntKind.i64.wrap (((s.data.toList.getD (m + 1) 0).toNat : Nat) : Int), [], 2) := by
          rw [hd2]; exact (if_pos k1).trans rfl
        rw [e]
        refine (if_pos (decide_eq_true (by rw [W1]; omega))).trans ((if_pos (decide_eq_true (by rw [W1]; omega))).trans ((if_neg (no k2)).trans ((if_neg (no k3)).trans ((leaf20 _ _ _ _ _ _).trans ?_))))
        rw [W1, W2]
        rfl
      · have e : tk (s.data.toList.getD m 0 :: s.data.toList.drop (m + 1)) = (kd (s.data.toList.getD m 0), 0, [], 1) := by
          rw [List.drop_of_length_le (i := m + 1) (by omega)]; exact (if_pos k1).trans rfl
        rw [e]
        refine (if_neg (by rw [W1, decide_eq_true_eq]; omega)).trans ((if_neg (no k2)).trans ((if_neg (no k3)).trans ((leaf20 _ _ _ _ _ _).trans ?_)))
        rw [W1]
        rfl
    · refine (if_neg (no k1)).trans ?_
      by_cases k2 : kd (s.data.toList.getD m 0) = 2
      · have k3 : ¬ kd (s.data.toList.getD m 0) = 3 := by rw [k2]; decide
        refine (if_pos (show (kd (s.data.toList.getD m 0) == 2) = true from beq_iff_eq.2 k2)).trans ?_
        have V : ∀ i : Nat, i ≤ 8 → IntKind.i64.wrap (((m + 1 : Nat) : Int) + (i : Int)) = ((m + 1 + i : Nat) : Int) := fun i hi => by rw [wrap_i64 (by omega) (by omega)]; omega
        have V0 : IntKind.i64.wrap (((m + 1 : Nat) : Int) + 0) = ((m + 1 + 0 : Nat) : Int) := V 0 (by omega)
        have V1 : IntKind.i64.wrap (((m + 1 : Nat) : Int) + 1) = ((m + 1 + 1 : Nat) : Int) := V 1 (by omega)
        have V2 : IntKind.i64.wrap (((m + 1 : Nat) : Int) + 2) = ((m + 1 + 2 : Nat) : Int) := V 2 (by omega)
        have V3 : IntKind.i64.wrap (((m + 1 : Nat) : Int) + 3) = ((m + 1 + 3 : Nat) : Int) := V 3 (by omega)
        have V4 : IntKind.i64.wrap (((m + 1 : Nat) : Int) + 4) = ((m + 1 + 4 : Nat) : Int) := V 4 (by omega)
        have V5 : IntKind.i64.wrap (((m + 1 : Nat) : Int) + 5) = ((m + 1 + 5 : Nat) : Int) := V 5 (by omega)
        have V6 : IntKind.i64.wrap (((m + 1 : Nat) : Int) + 6) = ((m + 1 + 6 : Nat) : Int) := V 6 (by omega)
        have V7 : IntKind.i64.wrap (((m + 1 : Nat) : Int) + 7) = ((m + 1 + 7 : Nat) : Int) := V 7 (by omega)
        have V8 : IntKind.i64.wrap (((m + 1 : Nat) : Int) + 8) = ((m + 1 + 8 : Nat) : Int) := V 8 (by omega)
        by_cases hm : m + 9 ≤ s.size
        · refine (if_pos (decide_eq_true (by rw [W1, V8]; omega))).trans ?_
          refine (if_pos (decide_eq_true (by rw [W1, V0]; omega))).trans ?_
          refine (if_pos (decide_eq_true (by rw [W1, V1]; omega))).trans ?_
          refine (if_pos (decide_eq_true (by rw [W1, V2]; omega))).trans ?_
          refine (if_pos (decide_eq_true (by rw [W1, V3]; omega))).trans ?_
          refine (if_pos (decide_eq_true (by rw [W1, V4]; omega))).trans ?_
          refine (if_pos (decide_eq_true (by rw [W1, V5]; omega))).trans ?_
          refine (if_pos (decide_eq_true (by rw [W1, V6]; omega))).trans ?_
          refine (if_pos (decide_eq_true (by rw [W1, V7]; omega))).trans ?_
          refine (if_neg (no k3)).trans ((leaf20 _ _ _ _ _ _).trans ?_)
          rw [W1, V0, V1, V2, V3, V4, V5, V6, V7, V8]
          simp only [Int.toNat_natCast, ← getD_drop]
          have hdl : (s.data.toList.drop (m + 1)).length = s.size - (m + 1) := by rw [List.length_drop, hl]
          obtain ⟨b0, b1, b2, b3, b4, b5, b6, b7, q, ht⟩ := eight (l := s.data.toList.drop (m + 1)) (by omega)
          rw [ht]
          have e : tk (s.data.toList.getD m 0 :: b0 :: b1 :: b2 :: b3 :: b4 :: b5 :: b6 :: b7 :: q) = (kd (s.data.toList.getD m 0), num2 [b0, b1, b2, b3, b4, b5, b6, b7], [], 9) := (if_neg k1).trans ((if_pos k2).trans rfl)
          rw [e]
          rfl
        · refine (if_neg (by rw [W1, V8, decide_eq_true_eq]; omega)).trans ((if_neg (no k3)).trans ((leaf20 _ _ _ _ _ _).trans ?_))
          rw [W1]
          have hdl : (s.data.toList.drop (m + 1)).length = s.size - (m + 1) := by rw [List.length_drop, hl]
          have e : tk (s.data.toList.getD m 0 :: s.data.toList.drop (m + 1)) = (kd (s.data.toList.getD m 0), 0, [], 1) := tk_short k1 k2 (by omega)
          rw [e]
          rfl
      · refine (if_neg (no k2)).trans ?_
        by_cases k3 : kd (s.data.toList.getD m 0) = 3
        · refine (if_pos (show (kd (s.data.toList.getD m 0) == 3) = true from beq_iff_eq.2 k3)).trans ((if_pos (decide_eq_true (by rw [W1]; omega))).trans ((leaf20 _ _ _ _ _ _).trans ?_))
          have e : tk (s.data.toList.getD m 0 :: s.data.toList.drop (m + 1)) = (kd (s.data.toList.getD m 0), 0, (tkT (s.data.toList.drop (m + 1))).1, (tkT (s.data.toList.drop (m + 1))).2 + 3) := (if_neg k1).trans ((if_neg k2).trans ((if_pos k3).trans rfl))
          rw [e, W1, show ((m + 1 : Nat) : Int).toNat = m + 1 from rfl]
          have hle := tkT_le _ (s.data.toList.drop (m + 1)) (Nat.le_refl _)
          rw [List.length_drop, hl] at hle
          have W3 : IntKind.i64.wrap (((m + 1 : Nat) : Int) + ((tkT (s.data.toList.drop (m + 1))).2 : Nat) + 2) = (m : Int) + (((tkT (s.data.toList.drop (m + 1))).2 + 3 : Nat) : Int) := by rw [wrap_i64 (by omega) (by omega)]; omega
          rw [W3]
          rfl
        · refine (if_neg (no k3)).trans ((leaf20 _ _ _ _ _ _).trans ?_)
          have e : tk (s.data.toList.getD m 0 :: s.data.toList.drop (m + 1)) = (kd (s.data.toList.getD m 0), 0, [], 1) := (if_neg k1).trans ((if_neg k2).trans ((if_neg k3).trans rfl))
          rw [e, W1]
          rfl
  · cases hg

end Go.Proofs.Ytnnogckknlgeiaa
end

section
/- What is taken is what bytes are: the plain law. -/
set_option linter.unusedVariables false
set_option linter.unusedSimpArgs false
namespace Go.Proofs.Ytnnogckknlgeiaa
open Go.Pu

theorem stp2_eq {n : Int} {b : UInt8} (h0 : 0 ≤ n) (h1 : n < 72057594037927936) : stp2 n b = n * 256 + (b.toNat : Int) := by
  have hb : b.toNat < 256 := UInt8.toNat_lt b
  unfold stp2
  rw [IntKind.wrap_u64, IntKind.wrap_u64, IntKind.wrap_u64]
  omega

theorem fold8b (b0 b1 b2 b3 b4 b5 b6 b7 : UInt8) : [b0, b1, b2, b3, b4, b5, b6, b7].foldl stp2 0 = [b0, b1, b2, b3, b4, b5, b6, b7].foldl stp 0 := by
  rw [fold8]
  have h0 : b0.toNat < 256 := UInt8.toNat_lt b0
  have h1 : b1.toNat < 256 := UInt8.toNat_lt b1
  have h2 : b2.toNat < 256 := UInt8.toNat_lt b2
  have h3 : b3.toNat < 256 := UInt8.toNat_lt b3
  have h4 : b4.toNat < 256 := UInt8.toNat_lt b4
  have h5 : b5.toNat < 256 := UInt8.toNat_lt b5
  have h6 : b6.toNat < 256 := UInt8.toNat_lt b6
  simp only [List.foldl_cons, List.foldl_nil]
  rw [stp2_eq (n := 0) (by omega) (by omega)]
  rw [stp2_eq (b := b1) (by omega) (by omega)]
  rw [stp2_eq (b := b2) (by omega) (by omega)]
  rw [stp2_eq (b := b3) (by omega) (by omega)]
  rw [stp2_eq (b := b4) (by omega) (by omega)]
  rw [stp2_eq (b := b5) (by omega) (by omega)]
  rw [stp2_eq (b := b6) (by omega) (by omega)]
  rw [stp2_eq (b := b7) (by omega) (by omega)]
  omega

theorem num2_num (b0 b1 b2 b3 b4 b5 b6 b7 : UInt8) : num2 [b0, b1, b2, b3, b4, b5, b6, b7] = num [b0, b1, b2, b3, b4, b5, b6, b7] := by
  unfold num2 num
  rw [fold8b]

theorem tkT_esc (r : List UInt8) : ∀ t : List UInt8, tkT (escB t ++ 0 :: 1 :: r) = (t, (escB t).length)
  | [] => by simp [escB, tkT_more]
  | b :: t => by
    have ih := tkT_esc r t
    by_cases hb : b = 0
    · subst hb
      simp only [escB, if_true, List.cons_append]
      rw [tkT_more, if_pos rfl, if_neg (by decide), ih]
      rfl
    · simp only [escB, if_neg hb, List.cons_append]
      obtain ⟨c, q, hq⟩ : ∃ c q, escB t ++ 0 :: 1 :: r = c :: q := by
        cases h : escB t with
        | nil => exact ⟨0, 1 :: r, by simp⟩
        | cons c q => exact ⟨c, q ++ 0 :: 1 :: r, by simp⟩
      rw [hq] at ih ⊢
      rw [tkT_more, if_neg hb, ih]
      rfl

/-- what is taken of a value's bytes is that value -/
theorem tk_one {v w : Int} {s : ByteArray} (hw : (Lit.int .i64 w).wf = true) (me : mayV v w s = true) (r : List UInt8) :
    tk (oneB v w s.data.toList ++ r) = (v, w, s.data.toList, (oneB v w s.data.toList).length) := by
  have hv : 0 ≤ v ∧ v ≤ 3 := by rcases may_cases me with ⟨h, _⟩ | ⟨h, _⟩ | ⟨h, _⟩ | ⟨h, _⟩ <;> omega
  have hk := kd_u8 hv
  unfold oneB
  rw [List.cons_append]
  unfold tk
  dsimp only
  rw [hk]
  rcases may_cases me with ⟨rfl, rfl, hs⟩ | ⟨rfl, hw0, hs⟩ | ⟨rfl, hs⟩ | ⟨rfl, rfl, hs⟩
  · simp only [show ¬ ((0 : Int) = 1) by decide, show ¬ ((0 : Int) = 2) by decide, show ¬ ((0 : Int) = 3) by decide, if_false, if_true, hs]
    rfl
  · simp only [if_true, List.cons_append, hs]
    have : IntKind.i64.wrap ((u8 w).toNat : Int) = w := by rw [u8_nat, wrap_i64 (by omega) (by omega)]; omega
    rw [this]
    rfl
  · simp only [show ¬ ((2 : Int) = 1) by decide, if_false, if_true, hs]
    have := num_num8 (wf64 hw)
    unfold num8 at this ⊢
    rw [← num2_num] at this
    dsimp only [List.cons_append, List.nil_append]
    rw [this]
    rfl
  · simp only [show ¬ ((3 : Int) = 1) by decide, show ¬ ((3 : Int) = 2) by decide, if_false, if_true]
    have : escB s.data.toList ++ [0, 1] ++ r = escB s.data.toList ++ 0 :: 1 :: r := by simp
    rw [this, tkT_esc]
    simp

theorem tk_wf {c : UInt8} {t : List UInt8} : (Lit.int .i64 (tk (c :: t)).1).wf = true ∧ (Lit.int .i64 (tk (c :: t)).2.1).wf = true := by
  have w0 : (Lit.int .i64 0).wf = true := wf_small (by omega)
  have wb : ∀ b : UInt8, (Lit.int .i64 (IntKind.i64.wrap ((b.toNat : Nat) : Int))).wf = true := fun b => by
    have hb : b.toNat < 256 := UInt8.toNat_lt b
    rw [wrap_i64 (by omega) (by omega)]
    exact wf_small (by omega)
  by_cases k1 : kd c = 1
  · cases t with
    | nil =>
      have e : tk [c] = (kd c, 0, [], 1) := (if_pos k1).trans rfl
      rw [e]; exact ⟨kd_wf c, w0⟩
    | cons b t =>
      have e : tk (c :: b :: t) = (kd c, IntKind.i64.wrap ((b.toNat : Nat) : Int), [], 2) := (if_pos k1).trans rfl
      rw [e]; exact ⟨kd_wf c, wb b⟩
  · by_cases k2 : kd c = 2
    · by_cases h : 8 ≤ t.length
      · obtain ⟨b0, b1, b2, b3, b4, b5, b6, b7, q, rfl⟩ := eight h
        have e : tk (c :: b0 :: b1 :: b2 :: b3 :: b4 :: b5 :: b6 :: b7 :: q) = (kd c, num2 [b0, b1, b2, b3, b4, b5, b6, b7], [], 9) := (if_neg k1).trans ((if_pos k2).trans rfl)
        rw [e]
        exact ⟨kd_wf c, by dsimp only; rw [num2_num]; exact num_wf _⟩
      · rw [tk_short k1 k2 (by omega)]; exact ⟨kd_wf c, w0⟩
    · by_cases k3 : kd c = 3
      · have e : tk (c :: t) = (kd c, 0, (tkT t).1, (tkT t).2 + 3) := (if_neg k1).trans ((if_neg k2).trans (if_pos k3))
        rw [e]; exact ⟨kd_wf c, w0⟩
      · have e : tk (c :: t) = (kd c, 0, [], 1) := (if_neg k1).trans ((if_neg k2).trans (if_neg k3))
        rw [e]; exact ⟨kd_wf c, w0⟩

/-- what is taken, and is so, is the first value -/
theorem tk_sure {l : List UInt8} (hl : l ≠ []) (h1 : mayV (tk l).1 (tk l).2.1 (bl (tk l).2.2.1) = true) (h2 : oneB (tk l).1 (tk l).2.1 (tk l).2.2.1 = l.take (tk l).2.2.2) :
    decV l = some (valE (tk l).1 (tk l).2.1 (tk l).2.2.1, l.drop (tk l).2.2.2) := by
  cases l with
  | nil => exact absurd rfl hl
  | cons c t =>
    obtain ⟨w1, w2⟩ := tk_wf (c := c) (t := t)
    have hv := isV_val w1 w2 h1
    have := decV_one hv h1 ((c :: t).drop (tk (c :: t)).2.2.2)
    have oe : oneE (valE (tk (c :: t)).1 (tk (c :: t)).2.1 (tk (c :: t)).2.2.1) = oneB (tk (c :: t)).1 (tk (c :: t)).2.1 (tk (c :: t)).2.2.1 := by
      rfl
    rw [oe, h2, List.take_append_drop] at this
    exact this

/-- the first value is taken, and is so -/
theorem tk_back {l : List UInt8} {e : List PV} {r : List UInt8} (h : decV l = some (e, r)) :
    mayV (tk l).1 (tk l).2.1 (bl (tk l).2.2.1) = true ∧ (tk l).2.2.2 ≤ l.length ∧ oneB (tk l).1 (tk l).2.1 (tk l).2.2.1 = l.take (tk l).2.2.2 ∧ e = valE (tk l).1 (tk l).2.1 (tk l).2.2.1 ∧ r = l.drop (tk l).2.2.2 := by
  obtain ⟨he, me, rfl⟩ := decV_back h
  obtain ⟨v, w, s, rfl, -, hw, -⟩ := he
  have me : mayV v w s = true := me
  have hE : oneE [.int .i64 v, .int .i64 w, .str s] = oneB v w s.data.toList := rfl
  rw [hE, tk_one hw me]
  have hb : bl s.data.toList = s := bl_data s
  refine ⟨by dsimp only; rw [hb]; exact me, by simp, by simp, ?_, by simp⟩
  unfold valE
  rw [hb]

end Go.Proofs.Ytnnogckknlgeiaa
end

section
/- Equations: what the machine prints. -/
set_option linter.unusedVariables false
namespace Go.Proofs.Ytnnogckknlgeiaa
open Go.Pu


set_option maxRecDepth 100000 in
theorem rd11 {R : Type} (n : Nat) (s : ByteArray) (a : Int) (acc : List (List PV)) (k : Ex → List PV → Heap → Option R) :
  runK br Try.prog (callK br Try.prog X7 M0 L3 (fun _ _ _ => none) (n+24)) M0 (fun _ => none) (n+24) 0 (L3 11) (bodyOf Try.prog 11 3) (pl 36 [(0, .str s), (2, .nils), (3, .bool false), (4, .all 0), (5, .int .i64 a)]) [.arr 32 acc true] (fun e ts h => (cleanX 0 (L3 11) 3 e ts h).bind fun c => k e c.1 c.2) =
  br (decide (a < (↑(ByteArray.size s) : Int)))
  (br (decide (ByteArray.size s ≤ 9999999 ∧ (0 : Int) ≤ a ∧ a < (↑(ByteArray.size s) : Int)))
    (br
      (!(mayV (Prod.fst (tk (List.drop (Int.toNat a) (Array.toList (ByteArray.data s)))))
            (Prod.fst (Prod.snd (tk (List.drop (Int.toNat a) (Array.toList (ByteArray.data s))))))
            (bl (Prod.fst (Prod.snd (Prod.snd (tk (List.drop (Int.toNat a) (Array.toList (ByteArray.data s)))))))) &&
          decide
            (a +
                (↑(Prod.snd (Prod.snd (Prod.snd (tk (List.drop (Int.toNat a) (Array.toList (ByteArray.data s))))))) :
                  Int) ≤
              (↑(ByteArray.size s) : Int))))
      (k Ex.ret (pl 36 [(2, PV.nils), (3, PV.bool false)]) [])
      (br
        (mayV (Prod.fst (tk (List.drop (Int.toNat a) (Array.toList (ByteArray.data s)))))
          (Prod.fst (Prod.snd (tk (List.drop (Int.toNat a) (Array.toList (ByteArray.data s))))))
          (bl (Prod.fst (Prod.snd (Prod.snd (tk (List.drop (Int.toNat a) (Array.toList (ByteArray.data s)))))))))
        (br
          (decide
            ((0 : Int) ≤ a ∧
              a ≤
                  a +
                    (↑(Prod.snd
                          (Prod.snd (Prod.snd (tk (List.drop (Int.toNat a) (Array.toList (ByteArray.data s))))))) :
                      Int) ∧
                a +
                    (↑(Prod.snd
                          (Prod.snd (Prod.snd (tk (List.drop (Int.toNat a) (Array.toList (ByteArray.data s))))))) :
                      Int) ≤
                  (↑(ByteArray.size s) : Int)))
          (br
            (!ByteArray.toList
                  (bl
                    (oneB (Prod.fst (tk (List.drop (Int.toNat a) (Array.toList (ByteArray.data s)))))
                      (Prod.fst (Prod.snd (tk (List.drop (Int.toNat a) (Array.toList (ByteArray.data s))))))
                      (Prod.fst
                        (Prod.snd (Prod.snd (tk (List.drop (Int.toNat a) (Array.toList (ByteArray.data s))))))))) ==
                ByteArray.toList
                  (ByteArray.extract s (Int.toNat a)
                    (Int.toNat
                      (a +
                        (↑(Prod.snd
                              (Prod.snd (Prod.snd (tk (List.drop (Int.toNat a) (Array.toList (ByteArray.data s))))))) :
                          Int)))))
            (k Ex.ret (pl 36 [(2, PV.nils), (3, PV.bool false)]) [])
            (br (decide ((List.length acc + 1) * 32 ≤ 140737488355328))
              (k Ex.normal
                (pl 36
                  [(0, PV.str s), (2, PV.nils), (3, PV.bool false),
                    (4, PV.all 0),
                    (5,
                      PV.int IntKind.i64
                        (a +
                          (↑(Prod.snd
                                (Prod.snd
                                  (Prod.snd (tk (List.drop (Int.toNat a) (Array.toList (ByteArray.data s))))))) :
                            Int)))])
                [Blk.arr 32
                    (acc ++
                      [[PV.int IntKind.i64 (Prod.fst (tk (List.drop (Int.toNat a) (Array.toList (ByteArray.data s))))),
                          PV.int IntKind.i64
                            (Prod.fst (Prod.snd (tk (List.drop (Int.toNat a) (Array.toList (ByteArray.data s)))))),
                          PV.str
                            (bl
                              (Prod.fst
                                (Prod.snd
                                  (Prod.snd (tk (List.drop (Int.toNat a) (Array.toList (ByteArray.data s))))))))]])
                    true])
              none))
          none)
        none))
    none)
  (k (Ex.exit 0) (pl 36 [(4, PV.all 0)]) [Blk.arr 32 acc true]) := by
  rw [← callF_eq, ← runF_eq]; kernel_rfl

end Go.Proofs.Ytnnogckknlgeiaa
end

section
/- The Key program: leveeref02.Decode's loop, told. -/
set_option linter.unusedVariables false
namespace Go.Proofs.Ytnnogckknlgeiaa
open Go.Pu

abbrev TW := ByteArray × Nat × List (List PV)

def enc11 (σ : TW) : List PV × Heap :=
  (pl 36 [(0, .str σ.1), (2, .nils), (3, .bool false), (4, .all 0), (5, .int .i64 (σ.2.1 : Nat))], [.arr 32 σ.2.2 true])

def ret11 : Out := (.ret, pl 36 [(2, .nils), (3, .bool false)], [])
def fin11 (es : List (List PV)) : Out := (.exit 0, pl 36 [(4, .all 0)], [.arr 32 es true])

def rnd11 (σ : TW) : Out :=
  if σ.2.1 < σ.1.size then
    (match decV (σ.1.data.toList.drop σ.2.1) with
    | none => ret11
    | some q => (.normal, enc11 (σ.1, σ.2.1 + (tk (σ.1.data.toList.drop σ.2.1)).2.2.2, σ.2.2 ++ [q.1])))
  else fin11 σ.2.2

theorem round11 (s : ByteArray) (a : Nat) (acc : List (List PV)) (hs : s.size ≤ 9999999) (ha : a ≤ s.size) (hc : acc.length ≤ a) :
    runK br Try.prog (callK br Try.prog X7 M0 L3 (fun _ _ _ => none) 24) M0 (fun _ => none) 24 0 (L3 11) (bodyOf Try.prog 11 3) (enc11 (s, a, acc)).1 (enc11 (s, a, acc)).2 (idc 0 (L3 11) 3) = some (rnd11 (s, a, acc)) := by
  have hl : s.data.toList.length = s.size := by simp
  refine (rd11 0 s (a : Nat) acc (fun e ts h => some (e, ts, h))).trans ?_
  rw [Int.toNat_natCast]
  by_cases h1 : a < s.size
  · have hne : s.data.toList.drop a ≠ [] := by
      rw [drop_at (by omega)]; simp
    have hdl : (s.data.toList.drop a).length = s.size - a := by rw [List.length_drop, hl]
    have e0 : rnd11 (s, a, acc) = (match decV (s.data.toList.drop a) with
      | none => ret11
      | some q => (.normal, enc11 (s, a + (tk (s.data.toList.drop a)).2.2.2, acc ++ [q.1]))) := if_pos h1
    rw [e0]
    refine (if_pos (decide_eq_true (by omega))).trans ((if_pos (decide_eq_true (by omega))).trans ?_)
    have ex : ∀ n : Nat, ((a : Int) + (n : Nat)).toNat = a + n := fun n => by omega
    cases hm : mayV (tk (s.data.toList.drop a)).1 (tk (s.data.toList.drop a)).2.1 (bl (tk (s.data.toList.drop a)).2.2.1) with
    | false =>
      have hd : decV (s.data.toList.drop a) = none := by
        cases h : decV (s.data.toList.drop a) with
        | none => rfl
        | some q => obtain ⟨e, r⟩ := q; rw [(tk_back h).1] at hm; cases hm
      rw [hd]
      exact (if_pos rfl).trans rfl
    | true =>
      by_cases hn : (tk (s.data.toList.drop a)).2.2.2 ≤ s.size - a
      · refine (if_neg (by rw [Bool.true_and, decide_eq_true (by omega)]; decide)).trans ((if_pos rfl).trans ((if_pos (decide_eq_true (by omega))).trans ?_))
        rw [ex, extract_bl, bl_toList, bl_toList]
        have e1 : a + (tk (s.data.toList.drop a)).2.2.2 - a = (tk (s.data.toList.drop a)).2.2.2 := by omega
        rw [e1]
        by_cases hq : oneB (tk (s.data.toList.drop a)).1 (tk (s.data.toList.drop a)).2.1 (tk (s.data.toList.drop a)).2.2.1 = (s.data.toList.drop a).take (tk (s.data.toList.drop a)).2.2.2
        · rw [tk_sure hne hm hq]
          refine (if_neg (by rw [hq]; simp)).trans ((if_pos (decide_eq_true (by omega))).trans ?_)
          have e2 : (a : Int) + ((tk (s.data.toList.drop a)).2.2.2 : Nat) = ((a + (tk (s.data.toList.drop a)).2.2.2 : Nat) : Int) := by omega
          rw [e2]
          rfl
        · have hd : decV (s.data.toList.drop a) = none := by
            cases h : decV (s.data.toList.drop a) with
            | none => rfl
            | some q => obtain ⟨e, r⟩ := q; exact absurd (tk_back h).2.2.1 hq
          rw [hd]
          exact (if_pos (by rw [Bool.not_eq_true', beq_eq_false_iff_ne]; exact hq)).trans rfl
      · have hd : decV (s.data.toList.drop a) = none := by
          cases h : decV (s.data.toList.drop a) with
          | none => rfl
          | some q => obtain ⟨e, r⟩ := q; exact absurd (Nat.le_trans (tk_back h).2.1 (Nat.le_of_eq hdl)) hn
        rw [hd]
        exact (if_pos (by rw [Bool.true_and, Bool.not_eq_true', decide_eq_false_iff_not]; omega)).trans rfl
  · have e0 : rnd11 (s, a, acc) = fin11 acc := if_neg h1
    rw [e0]
    exact (if_neg (by rw [decide_eq_true_eq]; omega)).trans rfl

def outR (acc : List (List PV)) : Option (List (List PV)) → Out
  | none => ret11
  | some es => fin11 (acc ++ es)

noncomputable def out11 (σ : TW) : Out := outR σ.2.2 (dec (σ.1.data.toList.drop σ.2.1))

noncomputable def g11 {R : Type} (B : BT R) : Smy R := fun ts h k =>
  match h, ts.length, ts.getD 0 .top, ts.getD 2 .top, ts.getD 3 .top, ts.getD 4 .top, ts.getD 5 .top with
  | [.arr 32 es true], 36, .str s, .nils, .bool false, .all 0, .int .i64 0 =>
    B (decide (s.size ≤ 9999999 ∧ es.length = 0)) (B (dec s.data.toList).isSome
      (k (.exit 0) (pl 36 [(4, .all 0)]) [.arr 32 ((dec s.data.toList).getD []) true])
      (k .ret (pl 36 [(2, .nils), (3, .bool false)]) [])) none
  | _, _, _, _, _, _, _ => none

theorem loop11 {R : Type} : LoopTells Try.prog X7 M0 L3 0 (L3 11) (bodyOf Try.prog 11 3) (g11 (R := R) br) := by
  have hrid : rid (bodyOf Try.prog 11 3) = 3 := by kernel_rfl
  refine loopTells_of (n := 24) (callK0 24) lsok_none (fun σ : TW => σ.1.size ≤ 9999999 ∧ σ.2.1 ≤ σ.1.size ∧ σ.2.2.length ≤ σ.2.1) enc11 (fun σ => σ.1.size - σ.2.1) out11 ?_ ?_
  · intro ts h c k r hc hk
    rw [hrid] at hc
    unfold g11 at hk
    split at hk
    · rename_i es s h0 h1 h2 h3 h4 h5 h6
      obtain ⟨hl, hk2⟩ := br_test hk
      clear hk
      simp only [decide_eq_true_eq] at hl
      obtain ⟨l1, l2⟩ := hl
      have : es = [] := List.length_eq_zero_iff.1 l2
      subst this
      refine ⟨(s, 0, []), ⟨l1, Nat.zero_le _, Nat.zero_le _⟩, ?_, ?_⟩
      · refine Prod.ext (cleaned_pl hc [(0, .str s), (2, .nils), (3, .bool false), (4, .all 0), (5, .int .i64 0)] h1 rfl rfl rfl ?_) h0
        simp only [List.forall_mem_cons]
        exact ⟨h2, h3, h4, h5, h6, fun _ h => by cases h⟩
      · unfold out11
        dsimp only
        rw [List.drop_zero]
        cases hd : dec s.data.toList with
        | none => rw [hd] at hk2; exact hk2
        | some es => rw [hd] at hk2; exact hk2
    · cases hk
  · rintro ⟨s, a, acc⟩ ⟨h1, h2, h3⟩
    rw [hrid]
    dsimp only at h1 h2 h3
    have hl : s.data.toList.length = s.size := by simp
    have hr := round11 s a acc h1 h2 h3
    refine ⟨(rnd11 (s, a, acc)).1, (rnd11 (s, a, acc)).2, hr, ?_⟩
    by_cases k1 : a < s.size
    · have hne : s.data.toList.drop a ≠ [] := by
        rw [drop_at (by omega)]; simp
      have hdl : (s.data.toList.drop a).length = s.size - a := by rw [List.length_drop, hl]
      have ds := dec_step hne
      cases hd : decV (s.data.toList.drop a) with
      | none =>
        have e : rnd11 (s, a, acc) = ret11 := by
          unfold rnd11
          dsimp only
          rw [if_pos k1, hd]
        have e2 : out11 (s, a, acc) = ret11 := by
          unfold out11
          dsimp only
          rw [ds, hd]; rfl
        rw [e, e2]
        exact .inr ⟨by simp [ret11], rfl⟩
      | some q =>
        obtain ⟨f, r⟩ := q
        obtain ⟨-, b2, -, -, b5⟩ := tk_back hd
        have hlt := decV_less hd
        subst b5
        rw [List.length_drop] at hlt
        have e : rnd11 (s, a, acc) = (.normal, enc11 (s, a + (tk (s.data.toList.drop a)).2.2.2, acc ++ [f])) := by
          unfold rnd11
          dsimp only
          rw [if_pos k1, hd]
        rw [e]
        refine .inl ⟨rfl, (s, a + (tk (s.data.toList.drop a)).2.2.2, acc ++ [f]), ⟨h1, by dsimp only; omega, by simp only [List.length_append, List.length_cons, List.length_nil]; omega⟩, rfl, by dsimp only; omega, ?_⟩
        unfold out11
        dsimp only
        rw [ds, hd]
        dsimp only
        rw [List.drop_drop]
        cases dec (s.data.toList.drop (a + (tk (s.data.toList.drop a)).2.2.2)) with
        | none => rfl
        | some es => simp [outR]
    · have e : rnd11 (s, a, acc) = fin11 acc := if_neg k1
      have e2 : out11 (s, a, acc) = fin11 acc := by
        unfold out11
        dsimp only
        rw [List.drop_of_length_le (by omega), dec_nil]
        simp [outR]
      rw [e, e2]
      exact .inr ⟨by simp [fin11], rfl⟩

noncomputable abbrev LS8 {R : Type} (B : BT R) : FuncId → Nat → Nat → Option (Smy R) := lsT [(11, 0, 3, g11 B)]

end Go.Proofs.Ytnnogckknlgeiaa
end

section
/- Equations: what the machine prints. -/
set_option linter.unusedVariables false
namespace Go.Proofs.Ytnnogckknlgeiaa
open Go.Pu


set_option maxRecDepth 100000 in
theorem ev11 {R : Type} (n : Nat) (s : ByteArray) (k : PV × Heap → Option R) :
  callK br Try.prog X7 M0 L3 (LS8 br) (n+12) 11 [.str s] [] k =
  br (decide (ByteArray.size s ≤ 9999999 ∧ 0 = 0)) (br (Option.isSome (dec (Array.toList (ByteArray.data s)))) (k (PV.tuple [PV.all 0, PV.bool true], [Blk.arr 32 (Option.getD (dec (Array.toList (ByteArray.data s))) []) true])) (k (PV.tuple [PV.nils, PV.bool false], []))) none := by
  rw [← callF_eq]; kernel_rfl

end Go.Proofs.Ytnnogckknlgeiaa
end

section
/- The Key program: decoding, told; KeyTells' and KeyBack's tables. -/
set_option linter.unusedVariables false
namespace Go.Proofs.Ytnnogckknlgeiaa
open Go.Pu

theorem ls6_ok {R : Type} : LoopsOK (R := R) Try.prog X6 M0 L3 (LS6 br) := loopsOK_list rids fun e h => by
  simp only [List.mem_cons, List.not_mem_nil, or_false] at h
  subst h
  exact loop10

theorem ls8_ok {R : Type} : LoopsOK (R := R) Try.prog X7 M0 L3 (LS8 br) := loopsOK_list rids fun e h => by
  simp only [List.mem_cons, List.not_mem_nil, or_false] at h
  subst h
  exact loop11

theorem val_if {b : Bool} {x y : Tr} {r : Res2} (hg : (Tr.test b x y).val = some r) : (b = true ∧ x.val = some r) ∨ (b = false ∧ y.val = some r) := by
  simp only [Tr.val] at hg
  split at hg
  · rename_i hb; exact .inl ⟨hb, hg⟩
  · rename_i hb; exact .inr ⟨by simpa using hb, hg⟩

theorem tells10 : Tells Try.prog X6 M0 L3 (LS6 br) 10 gDec := by
  intro zs hc r hg
  unfold gDec at hg
  split at hg
  · rename_i s
    rcases val_if hg with ⟨h1, hg⟩ | ⟨_, hg⟩
    · simp only [decide_eq_true_eq] at h1
      refine ⟨12, (ev10 0 s _).trans ((if_pos (decide_eq_true (by omega))).trans ?_)⟩
      rcases val_if hg with ⟨h2, hg⟩ | ⟨h2, hg⟩
      · refine (if_pos h2).trans ?_
        rcases val_if hg with ⟨h3, hg⟩ | ⟨h3, hg⟩
        · exact (if_pos h3).trans hg
        · exact (if_neg (by rw [h3]; decide)).trans hg
      · exact (if_neg (by rw [h2]; decide)).trans hg
    · cases hg
  · cases hg

theorem tells11 : Tells Try.prog X7 M0 L3 (LS8 br) 11 gDecR := by
  intro zs hc r hg
  unfold gDecR at hg
  split at hg
  · rename_i s
    rcases val_if hg with ⟨h1, hg⟩ | ⟨_, hg⟩
    · simp only [decide_eq_true_eq] at h1
      refine ⟨12, (ev11 0 s _).trans ((if_pos (decide_eq_true ⟨h1, rfl⟩)).trans ?_)⟩
      rcases val_if hg with ⟨h2, hg⟩ | ⟨h2, hg⟩
      · exact (if_pos h2).trans hg
      · exact (if_neg (by rw [h2]; decide)).trans hg
    · cases hg
  · cases hg

theorem x7 : XOK Try.prog X7 := by
  refine xokT x6 ?_
  simp only [List.forall_mem_cons]
  exact ⟨eok mixed named x6 ls7_ok tells20, fun _ h => by cases h⟩

theorem x8 : XOK Try.prog X8 := by
  refine xokT x6 ?_
  simp only [List.forall_mem_cons]
  exact ⟨eok mixed named x6 ls6_ok tells10, eok mixed named x7 ls8_ok tells11, fun _ h => by cases h⟩

end Go.Proofs.Ytnnogckknlgeiaa
end

section
/- Equations: what the machine prints. -/
set_option linter.unusedVariables false
namespace Go.Proofs.Ytnnogckknlgeiaa
open Go.Pu


set_option maxRecDepth 100000 in
theorem ev3 {R : Type} (n : Nat) (xs ys : List (List PV)) (s : ByteArray) (k : PV × Heap → Option R) :
  callK br Try.prog X8 M0 L3 (fun _ _ _ => none) (n+12) 3 [.lst 32 xs, .lst 32 ys, .str s] [] k =
  br (decide (List.length xs < 4611686018427387904))
  (br (!shortL xs) (k (PV.bool true, []))
    (br (decide (List.length ys < 4611686018427387904))
      (br (!shortL ys) (k (PV.bool true, []))
        (br (decide ((↑(ByteArray.size s) : Int) > (2000 : Int))) (k (PV.bool true, []))
          (br (decide (ByteArray.size s ≤ 9999999))
            (br (Option.isSome (dec (Array.toList (ByteArray.data s))))
              (br (decide (Option.getD (dec (Array.toList (ByteArray.data s))) [] = []))
                (br (decide (ByteArray.size s ≤ 9999999))
                  (br (Option.isSome (dec (Array.toList (ByteArray.data s))))
                    (br (decide (List.length xs ≤ 1000000))
                      (br (decide (List.length xs ≤ 1000000))
                        (br (ByteArray.toList (bl (encL xs)) == ByteArray.toList (bl (encL xs)))
                          (br (decide (List.length xs < 4611686018427387904))
                            (br (decide (List.length xs < 4611686018427387904))
                              (br (cmpL xs ys == cmpL xs ys)
                                (br (cmpL [] (Option.getD (dec (Array.toList (ByteArray.data s))) []) == (0 : Int))
                                  (k (PV.bool true, [])) (k (PV.bool false, [])))
                                (k (PV.bool false, [])))
                              none)
                            none)
                          (k (PV.bool false, [])))
                        none)
                      none)
                    (br (decide (List.length xs ≤ 1000000))
                      (br (decide (List.length xs ≤ 1000000))
                        (br (ByteArray.toList (bl (encL xs)) == ByteArray.toList (bl (encL xs)))
                          (br (decide (List.length xs < 4611686018427387904))
                            (br (decide (List.length xs < 4611686018427387904))
                              (br (cmpL xs ys == cmpL xs ys) (k (PV.bool false, [])) (k (PV.bool false, []))) none)
                            none)
                          (k (PV.bool false, [])))
                        none)
                      none))
                  none)
                (br (decide (ByteArray.size s ≤ 9999999))
                  (br (Option.isSome (dec (Array.toList (ByteArray.data s))))
                    (br (decide (List.length xs ≤ 1000000))
                      (br (decide (List.length xs ≤ 1000000))
                        (br (ByteArray.toList (bl (encL xs)) == ByteArray.toList (bl (encL xs)))
                          (br (decide (List.length xs < 4611686018427387904))
                            (br (decide (List.length xs < 4611686018427387904))
                              (br (cmpL xs ys == cmpL xs ys)
                                (br
                                  (decide
                                    (List.length (Option.getD (dec (Array.toList (ByteArray.data s))) []) <
                                      4611686018427387904))
                                  (br
                                    (cmpL (Option.getD (dec (Array.toList (ByteArray.data s))) [])
                                        (Option.getD (dec (Array.toList (ByteArray.data s))) []) ==
                                      (0 : Int))
                                    (k (PV.bool true, [])) (k (PV.bool false, [])))
                                  none)
                                (k (PV.bool false, [])))
                              none)
                            none)
                          (k (PV.bool false, [])))
                        none)
                      none)
                    (br (decide (List.length xs ≤ 1000000))
                      (br (decide (List.length xs ≤ 1000000))
                        (br (ByteArray.toList (bl (encL xs)) == ByteArray.toList (bl (encL xs)))
                          (br (decide (List.length xs < 4611686018427387904))
                            (br (decide (List.length xs < 4611686018427387904))
                              (br (cmpL xs ys == cmpL xs ys)
                                (br (cmpL (Option.getD (dec (Array.toList (ByteArray.data s))) []) [] == (0 : Int))
                                  (k (PV.bool false, [])) (k (PV.bool false, [])))
                                (k (PV.bool false, [])))
                              none)
                            none)
                          (k (PV.bool false, [])))
                        none)
                      none))
                  none))
              (br (decide (ByteArray.size s ≤ 9999999))
                (br (Option.isSome (dec (Array.toList (ByteArray.data s))))
                  (br (decide (List.length xs ≤ 1000000))
                    (br (decide (List.length xs ≤ 1000000))
                      (br (ByteArray.toList (bl (encL xs)) == ByteArray.toList (bl (encL xs)))
                        (br (decide (List.length xs < 4611686018427387904))
                          (br (decide (List.length xs < 4611686018427387904))
                            (br (cmpL xs ys == cmpL xs ys)
                              (br (cmpL [] (Option.getD (dec (Array.toList (ByteArray.data s))) []) == (0 : Int))
                                (k (PV.bool false, [])) (k (PV.bool false, [])))
                              (k (PV.bool false, [])))
                            none)
                          none)
                        (k (PV.bool false, [])))
                      none)
                    none)
                  (br (decide (List.length xs ≤ 1000000))
                    (br (decide (List.length xs ≤ 1000000))
                      (br (ByteArray.toList (bl (encL xs)) == ByteArray.toList (bl (encL xs)))
                        (br (decide (List.length xs < 4611686018427387904))
                          (br (decide (List.length xs < 4611686018427387904))
                            (br (cmpL xs ys == cmpL xs ys) (k (PV.bool true, [])) (k (PV.bool false, []))) none)
                          none)
                        (k (PV.bool false, [])))
                      none)
                    none))
                none))
            none)))
      none))
  none := by
  rw [← callF_eq]; kernel_rfl

end Go.Proofs.Ytnnogckknlgeiaa
end

section
/- Equations: what the machine prints. -/
set_option linter.unusedVariables false
namespace Go.Proofs.Ytnnogckknlgeiaa
open Go.Pu


set_option maxRecDepth 100000 in
theorem ev5 {R : Type} (n : Nat) (xs ys : List (List PV)) (s : ByteArray) (k : PV × Heap → Option R) :
  callK br Try.prog X8 M0 L3 (fun _ _ _ => none) (n+12) 5 [.lst 32 xs, .lst 32 ys, .str s] [] k =
  br (decide (List.length xs < 4611686018427387904))
  (br (!shortL xs) (k (PV.bool true, []))
    (br (decide (List.length ys < 4611686018427387904))
      (br (!shortL ys) (k (PV.bool true, []))
        (br (decide ((↑(ByteArray.size s) : Int) > (2000 : Int))) (k (PV.bool true, []))
          (br (decide (ByteArray.size s ≤ 9999999))
            (br (Option.isSome (dec (Array.toList (ByteArray.data s))))
              (br (decide (Option.getD (dec (Array.toList (ByteArray.data s))) [] = []))
                (br (![] == ByteArray.toList s) (k (PV.bool false, []))
                  (br (decide (List.length xs < 4611686018427387904))
                    (br (!mayL xs) (k (PV.bool true, []))
                      (br (decide (List.length ys < 4611686018427387904))
                        (br (!mayL ys) (k (PV.bool true, []))
                          (br (decide (List.length xs ≤ 1000000))
                            (br (decide (ByteArray.size (bl (encL xs)) ≤ 9999999))
                              (br (Option.isSome (dec (encL xs)))
                                (br (decide (Option.getD (dec (encL xs)) [] = []))
                                  (br (decide ((0 + List.length xs) * 32 ≤ 140737488355328))
                                    (br
                                      (decide
                                        ((List.length xs + List.length ys) * 32 ≤ 140737488355328))
                                      (br (cmpL [] xs == (0 : Int))
                                        (br (decide (List.length (xs ++ ys) ≤ 1000000))
                                          (br (decide (List.length xs ≤ 1000000))
                                            (br (decide (List.length ys ≤ 1000000))
                                              (br
                                                (decide
                                                  (ByteArray.size (bl (encL xs)) + ByteArray.size (bl (encL ys)) ≤
                                                    9223372036854775807))
                                                (k
                                                  (PV.bool
                                                      (ByteArray.toList (bl (encL (xs ++ ys))) ==
                                                        ByteArray.toList (bl (encL xs) ++ bl (encL ys))),
                                                    []))
                                                none)
                                              none)
                                            none)
                                          none)
                                        (k (PV.bool false, [])))
                                      none)
                                    none)
                                  (br (decide ((0 + List.length xs) * 32 ≤ 140737488355328))
                                    (br
                                      (decide
                                        ((List.length xs + List.length ys) * 32 ≤ 140737488355328))
                                      (br
                                        (decide
                                          (List.length (Option.getD (dec (encL xs)) []) < 4611686018427387904))
                                        (br (cmpL (Option.getD (dec (encL xs)) []) xs == (0 : Int))
                                          (br (decide (List.length (xs ++ ys) ≤ 1000000))
                                            (br (decide (List.length xs ≤ 1000000))
                                              (br (decide (List.length ys ≤ 1000000))
                                                (br
                                                  (decide
                                                    (ByteArray.size (bl (encL xs)) + ByteArray.size (bl (encL ys)) ≤
                                                      9223372036854775807))
                                                  (k
                                                    (PV.bool
                                                        (ByteArray.toList (bl (encL (xs ++ ys))) ==
                                                          ByteArray.toList (bl (encL xs) ++ bl (encL ys))),
                                                      []))
                                                  none)
                                                none)
                                              none)
                                            none)
                                          (k (PV.bool false, [])))
                                        none)
                                      none)
                                    none))
                                (br (decide ((0 + List.length xs) * 32 ≤ 140737488355328))
                                  (br (decide ((List.length xs + List.length ys) * 32 ≤ 140737488355328))
                                    (k (PV.bool false, [])) none)
                                  none))
                              none)
                            none))
                        none))
                    none))
                (br (decide (List.length (Option.getD (dec (Array.toList (ByteArray.data s))) []) ≤ 1000000))
                  (br
                    (!ByteArray.toList (bl (encL (Option.getD (dec (Array.toList (ByteArray.data s))) []))) ==
                        ByteArray.toList s)
                    (k (PV.bool false, []))
                    (br (decide (List.length xs < 4611686018427387904))
                      (br (!mayL xs) (k (PV.bool true, []))
                        (br (decide (List.length ys < 4611686018427387904))
                          (br (!mayL ys) (k (PV.bool true, []))
                            (br (decide (List.length xs ≤ 1000000))
                              (br (decide (ByteArray.size (bl (encL xs)) ≤ 9999999))
                                (br (Option.isSome (dec (encL xs)))
                                  (br (decide (Option.getD (dec (encL xs)) [] = []))
                                    (br (decide ((0 + List.length xs) * 32 ≤ 140737488355328))
                                      (br
                                        (decide
                                          ((List.length xs + List.length ys) * 32 ≤ 140737488355328))
                                        (br (cmpL [] xs == (0 : Int))
                                          (br (decide (List.length (xs ++ ys) ≤ 1000000))
                                            (br (decide (List.length xs ≤ 1000000))
                                              (br (decide (List.length ys ≤ 1000000))
                                                (br
                                                  (decide
                                                    (ByteArray.size (bl (encL xs)) + ByteArray.size (bl (encL ys)) ≤
                                                      9223372036854775807))
                                                  (k
                                                    (PV.bool
                                                        (ByteArray.toList (bl (encL (xs ++ ys))) ==
                                                          ByteArray.toList (bl (encL xs) ++ bl (encL ys))),
                                                      []))
                                                  none)
                                                none)
                                              none)
                                            none)
                                          (k (PV.bool false, [])))
                                        none)
                                      none)
                                    (br (decide ((0 + List.length xs) * 32 ≤ 140737488355328))
                                      (br
                                        (decide
                                          ((List.length xs + List.length ys) * 32 ≤ 140737488355328))
                                        (br
                                          (decide
                                            (List.length (Option.getD (dec (encL xs)) []) <
                                              4611686018427387904))
                                          (br (cmpL (Option.getD (dec (encL xs)) []) xs == (0 : Int))
                                            (br (decide (List.length (xs ++ ys) ≤ 1000000))
                                              (br (decide (List.length xs ≤ 1000000))
                                                (br (decide (List.length ys ≤ 1000000))
                                                  (br
                                                    (decide
                                                      (ByteArray.size (bl (encL xs)) + ByteArray.size (bl (encL ys)) ≤
                                                        9223372036854775807))
                                                    (k
                                                      (PV.bool
                                                          (ByteArray.toList (bl (encL (xs ++ ys))) ==
                                                            ByteArray.toList (bl (encL xs) ++ bl (encL ys))),
                                                        []))
                                                    none)
                                                  none)
                                                none)
                                              none)
                                            (k (PV.bool false, [])))
                                          none)
                                        none)
                                      none))
                                  (br (decide ((0 + List.length xs) * 32 ≤ 140737488355328))
                                    (br
                                      (decide
                                        ((List.length xs + List.length ys) * 32 ≤ 140737488355328))
                                      (k (PV.bool false, [])) none)
                                    none))
                                none)
                              none))
                          none))
                      none))
                  none))
              (br (decide (List.length xs < 4611686018427387904))
                (br (!mayL xs) (k (PV.bool true, []))
                  (br (decide (List.length ys < 4611686018427387904))
                    (br (!mayL ys) (k (PV.bool true, []))
                      (br (decide (List.length xs ≤ 1000000))
                        (br (decide (ByteArray.size (bl (encL xs)) ≤ 9999999))
                          (br (Option.isSome (dec (encL xs)))
                            (br (decide (Option.getD (dec (encL xs)) [] = []))
                              (br (decide ((0 + List.length xs) * 32 ≤ 140737488355328))
                                (br (decide ((List.length xs + List.length ys) * 32 ≤ 140737488355328))
                                  (br (cmpL [] xs == (0 : Int))
                                    (br (decide (List.length (xs ++ ys) ≤ 1000000))
                                      (br (decide (List.length xs ≤ 1000000))
                                        (br (decide (List.length ys ≤ 1000000))
                                          (br
                                            (decide
                                              (ByteArray.size (bl (encL xs)) + ByteArray.size (bl (encL ys)) ≤
                                                9223372036854775807))
                                            (k
                                              (PV.bool
                                                  (ByteArray.toList (bl (encL (xs ++ ys))) ==
                                                    ByteArray.toList (bl (encL xs) ++ bl (encL ys))),
                                                []))
                                            none)
                                          none)
                                        none)
                                      none)
                                    (k (PV.bool false, [])))
                                  none)
                                none)
                              (br (decide ((0 + List.length xs) * 32 ≤ 140737488355328))
                                (br (decide ((List.length xs + List.length ys) * 32 ≤ 140737488355328))
                                  (br
                                    (decide
                                      (List.length (Option.getD (dec (encL xs)) []) < 4611686018427387904))
                                    (br (cmpL (Option.getD (dec (encL xs)) []) xs == (0 : Int))
                                      (br (decide (List.length (xs ++ ys) ≤ 1000000))
                                        (br (decide (List.length xs ≤ 1000000))
                                          (br (decide (List.length ys ≤ 1000000))
                                            (br
                                              (decide
                                                (ByteArray.size (bl (encL xs)) + ByteArray.size (bl (encL ys)) ≤
                                                  9223372036854775807))
                                              (k
                                                (PV.bool
                                                    (ByteArray.toList (bl (encL (xs ++ ys))) ==
                                                      ByteArray.toList (bl (encL xs) ++ bl (encL ys))),
                                                  []))
                                              none)
                                            none)
                                          none)
                                        none)
                                      (k (PV.bool false, [])))
                                    none)
                                  none)
                                none))
                            (br (decide ((0 + List.length xs) * 32 ≤ 140737488355328))
                              (br (decide ((List.length xs + List.length ys) * 32 ≤ 140737488355328))
                                (k (PV.bool false, [])) none)
                              none))
                          none)
                        none))
                    none))
                none))
            none)))
      none))
  none := by
  rw [← callF_eq]; kernel_rfl

end Go.Proofs.Ytnnogckknlgeiaa
end
