/- The Key program: what its functions tell, as equations of pure data: encoding; the plain law of order. Each theorem names its conditions. -/
import Derived.Test.YtnnogckknlgeiaaKeyBase
section
/- The Key program: bytes; what is live at the loops of encoding and decoding. -/
set_option linter.unusedVariables false
namespace Go.Proofs.Ytnnogckknlgeiaa
open Go.Pu

def L2 : FuncId → Nat → Option (List Nat) := liveT [(12, 3, [2, 3, 6, 7, 8]), (12, 1000003, [3]), (12, 2000003, [2]), (13, 3, [0, 3, 4]), (13, 1000003, [3]), (21, 15, [1, 3, 7]), (21, 1000015, [3]), (22, 14, [0, 3, 48, 49]), (22, 1000014, [0])]

end Go.Proofs.Ytnnogckknlgeiaa
end

section
/- Equations: what the machine prints. -/
set_option linter.unusedVariables false
namespace Go.Proofs.Ytnnogckknlgeiaa
open Go.Pu


set_option maxRecDepth 100000 in
theorem rd21 {R : Type} (n : Nat) (v w : Int) (s : ByteArray) (es : List (List PV)) (i : Int) (k : Ex → List PV → Heap → Option R) :
  runK br Try.prog (callK br Try.prog X3 M0 L2 (fun _ _ _ => none) (n+9)) M0 (fun _ => none) (n+9) 0 (L2 21) (bodyOf Try.prog 21 15) (pl 72 [(1, .ptr 0 0), (3, .all 1), (7, .int .i64 i)]) [.box 32 [.int .i64 v, .int .i64 w, .str s], .arr 5 es true] (fun e ts h => (cleanX 0 (L2 21) 15 e ts h).bind fun c => k e c.1 c.2) =
  br (decide (i < (↑(ByteArray.size s) : Int)))
  (br (decide (0 ≤ i ∧ i < (↑(ByteArray.size s) : Int)))
    (br (decide ((List.length es + 1) * 1 ≤ 140737488355328))
      (br (decide (0 ≤ i ∧ i < (↑(ByteArray.size s) : Int)))
        (br ((↑(UInt8.toNat (List.getD (Array.toList (ByteArray.data s)) (Int.toNat i) 0)) : Int) == 0)
          (br
            (decide
              ((List.length
                      (es ++
                        [[PV.int IntKind.u8
                              (↑(UInt8.toNat (List.getD (Array.toList (ByteArray.data s)) (Int.toNat i) 0)) : Int)]]) +
                    1) *
                  1 ≤
                140737488355328))
            (k Ex.normal
              (pl 72 [(1, PV.ptr 0 0), (3, PV.all 1), (7, PV.int IntKind.i64 (IntKind.wrap IntKind.i64 (i + 1)))])
              [Blk.box 32 [PV.int IntKind.i64 v, PV.int IntKind.i64 w, PV.str s],
                Blk.arr 5
                  (es ++
                      [[PV.int IntKind.u8
                            (↑(UInt8.toNat (List.getD (Array.toList (ByteArray.data s)) (Int.toNat i) 0)) : Int)]] ++
                    [[PV.int IntKind.u8 255]])
                  true])
            none)
          (k Ex.normal
            (pl 72 [(1, PV.ptr 0 0), (3, PV.all 1), (7, PV.int IntKind.i64 (IntKind.wrap IntKind.i64 (i + 1)))])
            [Blk.box 32 [PV.int IntKind.i64 v, PV.int IntKind.i64 w, PV.str s],
              Blk.arr 5
                (es ++
                  [[PV.int IntKind.u8
                        (↑(UInt8.toNat (List.getD (Array.toList (ByteArray.data s)) (Int.toNat i) 0)) : Int)]])
                true]))
        none)
      none)
    none)
  (k (Ex.exit 3) (pl 72 [(3, PV.all 0)]) [Blk.arr 5 es true]) := by
  rw [← callF_eq, ← runF_eq]; kernel_rfl

set_option maxRecDepth 100000 in
theorem rd22b {R : Type} (n : Nat) (v w : Int) (s : ByteArray) (es : List (List PV)) (m i : Int) (k : Ex → List PV → Heap → Option R) :
  runK br Try.prog (callK br Try.prog X3 M0 L2 (fun _ _ _ => none) (n+9)) M0 (fun _ => none) (n+9) 0 (L2 22) (bodyOf Try.prog 22 14) (pl 71 [(0, .all 0), (3, .ptr 1 0), (48, .int .i64 m), (49, .int .i64 i)]) [.arr 5 es true, .box 32 [.int .i64 v, .int .i64 w, .str s]] (fun e ts h => (cleanX 0 (L2 22) 14 e ts h).bind fun c => k e c.1 c.2) =
  br (decide (i < m))
  (br (decide (0 ≤ i ∧ i < (↑(ByteArray.size s) : Int)))
    (br (decide ((List.length es + 1) * 1 ≤ 140737488355328))
      (br (decide (0 ≤ i ∧ i < (↑(ByteArray.size s) : Int)))
        (br ((↑(UInt8.toNat (List.getD (Array.toList (ByteArray.data s)) (Int.toNat i) 0)) : Int) == 0)
          (br
            (decide
              ((List.length
                      (es ++
                        [[PV.int IntKind.u8
                              (↑(UInt8.toNat (List.getD (Array.toList (ByteArray.data s)) (Int.toNat i) 0)) : Int)]]) +
                    1) *
                  1 ≤
                140737488355328))
            (k Ex.normal
              (pl 71
                [(0, PV.all 0), (3, PV.ptr 1 0), (48, PV.int IntKind.i64 m),
                  (49, PV.int IntKind.i64 (IntKind.wrap IntKind.i64 (i + 1)))])
              [Blk.arr 5
                  (es ++
                      [[PV.int IntKind.u8
                            (↑(UInt8.toNat (List.getD (Array.toList (ByteArray.data s)) (Int.toNat i) 0)) : Int)]] ++
                    [[PV.int IntKind.u8 255]])
                  true,
                Blk.box 32 [PV.int IntKind.i64 v, PV.int IntKind.i64 w, PV.str s]])
            none)
          (k Ex.normal
            (pl 71
              [(0, PV.all 0), (3, PV.ptr 1 0), (48, PV.int IntKind.i64 m),
                (49, PV.int IntKind.i64 (IntKind.wrap IntKind.i64 (i + 1)))])
            [Blk.arr 5
                (es ++
                  [[PV.int IntKind.u8
                        (↑(UInt8.toNat (List.getD (Array.toList (ByteArray.data s)) (Int.toNat i) 0)) : Int)]])
                true,
              Blk.box 32 [PV.int IntKind.i64 v, PV.int IntKind.i64 w, PV.str s]]))
        none)
      none)
    none)
  (k (Ex.exit 3) (pl 71 [(0, PV.all 0)]) [Blk.arr 5 es true]) := by
  rw [← callF_eq, ← runF_eq]; kernel_rfl

set_option maxRecDepth 100000 in
theorem rd22 {R : Type} (n : Nat) (v w : Int) (s : ByteArray) (es : List (List PV)) (m i : Int) (k : Ex → List PV → Heap → Option R) :
  runK br Try.prog (callK br Try.prog X3 M0 L2 (fun _ _ _ => none) (n+9)) M0 (fun _ => none) (n+9) 1 (L2 22) (bodyOf Try.prog 22 14) (pl 71 [(0, .all 1), (3, .ptr 2 0), (48, .int .i64 m), (49, .int .i64 i)]) [.dead, .arr 5 es true, .box 32 [.int .i64 v, .int .i64 w, .str s]] (fun e ts h => (cleanX 1 (L2 22) 14 e ts h).bind fun c => k e c.1 c.2) =
  br (decide (i < m))
  (br (decide (0 ≤ i ∧ i < (↑(ByteArray.size s) : Int)))
    (br (decide ((List.length es + 1) * 1 ≤ 140737488355328))
      (br (decide (0 ≤ i ∧ i < (↑(ByteArray.size s) : Int)))
        (br ((↑(UInt8.toNat (List.getD (Array.toList (ByteArray.data s)) (Int.toNat i) 0)) : Int) == 0)
          (br
            (decide
              ((List.length
                      (es ++
                        [[PV.int IntKind.u8
                              (↑(UInt8.toNat (List.getD (Array.toList (ByteArray.data s)) (Int.toNat i) 0)) : Int)]]) +
                    1) *
                  1 ≤
                140737488355328))
            (k Ex.normal
              (pl 71
                [(0, PV.all 1), (3, PV.ptr 2 0), (48, PV.int IntKind.i64 m),
                  (49, PV.int IntKind.i64 (IntKind.wrap IntKind.i64 (i + 1)))])
              [Blk.dead,
                Blk.arr 5
                  (es ++
                      [[PV.int IntKind.u8
                            (↑(UInt8.toNat (List.getD (Array.toList (ByteArray.data s)) (Int.toNat i) 0)) : Int)]] ++
                    [[PV.int IntKind.u8 255]])
                  true,
                Blk.box 32 [PV.int IntKind.i64 v, PV.int IntKind.i64 w, PV.str s]])
            none)
          (k Ex.normal
            (pl 71
              [(0, PV.all 1), (3, PV.ptr 2 0), (48, PV.int IntKind.i64 m),
                (49, PV.int IntKind.i64 (IntKind.wrap IntKind.i64 (i + 1)))])
            [Blk.dead,
              Blk.arr 5
                (es ++
                  [[PV.int IntKind.u8
                        (↑(UInt8.toNat (List.getD (Array.toList (ByteArray.data s)) (Int.toNat i) 0)) : Int)]])
                true,
              Blk.box 32 [PV.int IntKind.i64 v, PV.int IntKind.i64 w, PV.str s]]))
        none)
      none)
    none)
  (k (Ex.exit 3) (pl 71 [(0, PV.all 1)]) [Blk.dead, Blk.arr 5 es true]) := by
  rw [← callF_eq, ← runF_eq]; kernel_rfl

end Go.Proofs.Ytnnogckknlgeiaa
end

section
/- The Key program: a text's bytes, put behind others. -/
set_option linter.unusedVariables false
namespace Go.Proofs.Ytnnogckknlgeiaa
open Go.Pu

/-- bytes as cells -/
def bc (l : List UInt8) : List (List PV) := l.map fun b => [.int .u8 (b.toNat : Int)]

theorem bc_append (a b : List UInt8) : bc (a ++ b) = bc a ++ bc b := by simp [bc]
theorem bc_length (a : List UInt8) : (bc a).length = a.length := by simp [bc]

/-- a text's bytes, as they are put -/
def escB : List UInt8 → List UInt8
  | [] => []
  | b :: r => if b = 0 then 0 :: 255 :: escB r else b :: escB r

theorem escB_append : ∀ a b, escB (a ++ b) = escB a ++ escB b
  | [], b => rfl
  | x :: a, b => by
    simp only [List.cons_append, escB, escB_append a b]
    split <;> rfl

theorem escB_length : ∀ a, (escB a).length ≤ 2 * a.length
  | [] => by simp [escB]
  | x :: a => by
    have := escB_length a
    simp only [escB]
    split <;> simp only [List.length_cons] <;> omega

theorem escB_take {l : List UInt8} {i : Nat} (h : i < l.length) : escB (l.take (i + 1)) = escB (l.take i) ++ escB [l.getD i 0] := by
  rw [← escB_append]
  congr 1
  rw [List.take_add_one]
  simp [List.getD, h]

theorem textRound {R : Type} {s : ByteArray} {es : List (List PV)} {i : Nat} {m : Int} (F : List (List PV) → Option R) {Z : Option R} (hi : i < s.size) (hm : m = s.size) (hs : s.size ≤ 1000000) (he : es.length ≤ 1000000 + 1000000000000 + 1000000) :
    br (decide ((i : Int) < m))
      (br (decide (0 ≤ (i : Int) ∧ (i : Int) < (s.size : Int)))
        (br (decide ((es.length + 1) * 1 ≤ 140737488355328))
          (br (decide (0 ≤ (i : Int) ∧ (i : Int) < (s.size : Int)))
            (br ((((s.data.toList.getD (i : Int).toNat 0).toNat : Nat) : Int) == 0)
              (br (decide (((es ++ [[PV.int IntKind.u8 (((s.data.toList.getD (i : Int).toNat 0).toNat : Nat) : Int)]]).length + 1) * 1 ≤ 140737488355328))
                (F (es ++ [[PV.int IntKind.u8 (((s.data.toList.getD (i : Int).toNat 0).toNat : Nat) : Int)]] ++ [[PV.int IntKind.u8 255]])) none)
              (F (es ++ [[PV.int IntKind.u8 (((s.data.toList.getD (i : Int).toNat 0).toNat : Nat) : Int)]])))
            none) none) none) Z = F (es ++ bc (escB [s.data.toList.getD i 0])) := by
  subst hm
  refine (if_pos (decide_eq_true (by omega))).trans ((if_pos (decide_eq_true (by omega))).trans ((if_pos (decide_eq_true (by omega))).trans ((if_pos (decide_eq_true (by omega))).trans ?_)))
  have e : (i : Int).toNat = i := by simp
  rw [e]
  by_cases hb : s.data.toList.getD i 0 = 0
  · rw [hb]
    refine (if_pos (by rfl)).trans ((if_pos (decide_eq_true (by simp; omega))).trans ?_)
    rw [List.append_assoc]; rfl
  · have hb' : ¬ ((s.data.toList.getD i 0).toNat : Int) = 0 := fun h => hb (by
      have : (s.data.toList.getD i 0).toNat = 0 := by omega
      exact UInt8.toNat_inj.1 (by simpa using this))
    refine (if_neg (by simpa using hb')).trans ?_
    have e1 : escB [s.data.toList.getD i 0] = [s.data.toList.getD i 0] := if_neg hb
    rw [e1]; rfl

/-- the condition under which a text's bytes are told -/
def txtOK (s : ByteArray) (es : List (List PV)) : Bool := decide (s.size ≤ 1000000 ∧ es.length ≤ 1000000000000)

def b32 (v w : Int) (s : ByteArray) : Blk := .box 32 [.int .i64 v, .int .i64 w, .str s]

def g21 {R : Type} (B : BT R) : Smy R := fun ts h k =>
  match h, ts.length, ts.getD 1 .top, ts.getD 3 .top, ts.getD 7 .top with
  | [.box 32 [.int .i64 v, .int .i64 w, .str s], .arr 5 es true], 72, .ptr 0 0, .all 1, .int .i64 0 =>
    B (txtOK s es) (k (.exit 3) (pl 72 [(3, .all 0)]) [.arr 5 (es ++ bc (escB s.data.toList)) true]) none
  | _, _, _, _, _ => none

def g22b {R : Type} (B : BT R) : Smy R := fun ts h k =>
  match h, ts.length, ts.getD 0 .top, ts.getD 3 .top, ts.getD 48 .top, ts.getD 49 .top with
  | [.arr 5 es true, .box 32 [.int .i64 v, .int .i64 w, .str s]], 71, .all 0, .ptr 1 0, .int .i64 m, .int .i64 0 =>
    B (txtOK s es) (B (decide (m = s.size)) (k (.exit 3) (pl 71 [(0, .all 0)]) [.arr 5 (es ++ bc (escB s.data.toList)) true]) none) none
  | _, _, _, _, _, _ => none

def g22 {R : Type} (B : BT R) : Smy R := fun ts h k =>
  match h, ts.length, ts.getD 0 .top, ts.getD 3 .top, ts.getD 48 .top, ts.getD 49 .top with
  | [.dead, .arr 5 es true, .box 32 [.int .i64 v, .int .i64 w, .str s]], 71, .all 1, .ptr 2 0, .int .i64 m, .int .i64 0 =>
    B (txtOK s es) (B (decide (m = s.size)) (k (.exit 3) (pl 71 [(0, .all 1)]) [.dead, .arr 5 (es ++ bc (escB s.data.toList)) true]) none) none
  | _, _, _, _, _, _ => none

abbrev TS := Int × Int × ByteArray × List (List PV)

theorem br_false_of {R : Type} {b : Bool} {x y : Option R} (h : b = false) : br b x y = y := by rw [h]; rfl

theorem fst_false (n : Nat) : fst (fun _ => false) n = n := fst_none fun _ _ => rfl

theorem take0 (es : List (List PV)) (l : List UInt8) : es = es ++ bc (escB (l.take 0)) := by simp [escB, bc]

theorem loop21 {R : Type} : LoopTells Try.prog X3 M0 L2 0 (L2 21) (bodyOf Try.prog 21 15) (g21 (R := R) br) := by
  refine search_of (n := 9) (callK0 9) lsok_none (fun σ : TS => txtOK σ.2.2.1 σ.2.2.2 = true) (fun σ => σ.2.2.1.size) (fun _ _ => false)
    (fun σ i => (pl 72 [(1, .ptr 0 0), (3, .all 1), (7, .int .i64 (i : Nat))], [b32 σ.1 σ.2.1 σ.2.2.1, .arr 5 (σ.2.2.2 ++ bc (escB (σ.2.2.1.data.toList.take i))) true]))
    (fun σ i => (.ret, [], [])) (fun σ => (.exit 3, pl 72 [(3, .all 0)], [.arr 5 (σ.2.2.2 ++ bc (escB σ.2.2.1.data.toList)) true])) (q := 15) (by kernel_rfl) ?_ ?_ ?_ ?_
  · intro ts h c k r hc hk
    unfold g21 at hk
    split at hk
    · rename_i v w s es h0 h1 h2 h3 h4
      obtain ⟨hl, hk⟩ := br_test hk
      refine ⟨(v, w, s, es), hl, ?_, by rw [fst_false, br_false_of (by simp)]; exact hk⟩
      refine Prod.ext (cleaned_pl hc [(1, .ptr 0 0), (3, .all 1), (7, .int .i64 0)] h1 rfl rfl rfl ?_) ?_
      · simp only [List.forall_mem_cons]
        exact ⟨h2, h3, h4, fun _ h => by cases h⟩
      · dsimp only
        rw [h0, ← take0]; rfl
    · cases hk
  · intro σ i h1 h2 h3 h4; cases h3
  · rintro ⟨v, w, s, es⟩ i h1 h2 h3 h4
    simp only [txtOK, decide_eq_true_eq] at h1
    dsimp only at h2 ⊢
    have hl := escB_length (s.data.toList.take i)
    have hi : i < s.data.toList.length := by simpa using h2
    rw [List.length_take] at hl
    refine (rd21 0 v w s _ (i : Int) (fun e ts h => some (e, ts, h))).trans ((textRound (fun es' => some (Ex.normal, pl 72 [(1, .ptr 0 0), (3, .all 1), (7, .int .i64 (IntKind.wrap IntKind.i64 (i + 1)))], [b32 v w s, .arr 5 es' true])) h2 rfl h1.1 (by rw [List.length_append, bc_length]; omega)).trans ?_)
    rw [wrap_i64 (by omega) (by omega), escB_take hi, bc_append, List.append_assoc]
    rfl
  · rintro ⟨v, w, s, es⟩ h1 h2
    refine ⟨by simp, (rd21 0 v w s _ (s.size : Int) (fun e ts h => some (e, ts, h))).trans ((if_neg (by simp)).trans ?_)⟩
    dsimp only
    rw [List.take_of_length_le (by simp)]


theorem loop22b {R : Type} : LoopTells Try.prog X3 M0 L2 0 (L2 22) (bodyOf Try.prog 22 14) (g22b (R := R) br) := by
  refine search_of (n := 9) (callK0 9) lsok_none (fun σ : TS => txtOK σ.2.2.1 σ.2.2.2 = true) (fun σ => σ.2.2.1.size) (fun _ _ => false)
    (fun σ i => (pl 71 [(0, .all 0), (3, .ptr 1 0), (48, .int .i64 (σ.2.2.1.size : Nat)), (49, .int .i64 (i : Nat))], [.arr 5 (σ.2.2.2 ++ bc (escB (σ.2.2.1.data.toList.take i))) true, b32 σ.1 σ.2.1 σ.2.2.1]))
    (fun σ i => (.ret, [], [])) (fun σ => (.exit 3, pl 71 [(0, .all 0)], [.arr 5 (σ.2.2.2 ++ bc (escB σ.2.2.1.data.toList)) true])) (q := 14) (by kernel_rfl) ?_ ?_ ?_ ?_
  · intro ts h c k r hc hk
    unfold g22b at hk
    split at hk
    · rename_i es v w s m h0 h1 h2 h3 h4 h5
      obtain ⟨hl, hk⟩ := br_test hk
      obtain ⟨hm, hk2⟩ := br_test hk
      have hm : m = (s.size : Int) := by simpa using hm
      subst hm
      refine ⟨(v, w, s, es), hl, ?_, by rw [fst_false, br_false_of (by simp)]; exact hk2⟩
      refine Prod.ext (cleaned_pl hc [(0, .all 0), (3, .ptr 1 0), (48, .int .i64 (s.size : Nat)), (49, .int .i64 0)] h1 rfl rfl rfl ?_) ?_
      · simp only [List.forall_mem_cons]
        exact ⟨h2, h3, h4, h5, fun _ h => by cases h⟩
      · dsimp only
        rw [h0, ← take0]; rfl
    · cases hk
  · intro σ i h1 h2 h3 h4; cases h3
  · rintro ⟨v, w, s, es⟩ i h1 h2 h3 h4
    simp only [txtOK, decide_eq_true_eq] at h1
    dsimp only at h2 ⊢
    have hl := escB_length (s.data.toList.take i)
    have hi : i < s.data.toList.length := by simpa using h2
    rw [List.length_take] at hl
    refine (rd22b 0 v w s _ (s.size : Nat) (i : Int) (fun e ts h => some (e, ts, h))).trans ((textRound (fun es' => some (Ex.normal, pl 71 [(0, .all 0), (3, .ptr 1 0), (48, .int .i64 (s.size : Nat)), (49, .int .i64 (IntKind.wrap IntKind.i64 (i + 1)))], [.arr 5 (es') true, b32 v w s])) h2 rfl h1.1 (by rw [List.length_append, bc_length]; omega)).trans ?_)
    rw [wrap_i64 (by omega) (by omega), escB_take hi, bc_append, List.append_assoc]
    rfl
  · rintro ⟨v, w, s, es⟩ h1 h2
    refine ⟨by simp, (rd22b 0 v w s _ (s.size : Nat) (s.size : Int) (fun e ts h => some (e, ts, h))).trans ((if_neg (by simp)).trans ?_)⟩
    dsimp only
    rw [List.take_of_length_le (by simp)]

theorem loop22 {R : Type} : LoopTells Try.prog X3 M0 L2 1 (L2 22) (bodyOf Try.prog 22 14) (g22 (R := R) br) := by
  refine search_of (n := 9) (callK0 9) lsok_none (fun σ : TS => txtOK σ.2.2.1 σ.2.2.2 = true) (fun σ => σ.2.2.1.size) (fun _ _ => false)
    (fun σ i => (pl 71 [(0, .all 1), (3, .ptr 2 0), (48, .int .i64 (σ.2.2.1.size : Nat)), (49, .int .i64 (i : Nat))], [.dead, .arr 5 (σ.2.2.2 ++ bc (escB (σ.2.2.1.data.toList.take i))) true, b32 σ.1 σ.2.1 σ.2.2.1]))
    (fun σ i => (.ret, [], [])) (fun σ => (.exit 3, pl 71 [(0, .all 1)], [.dead, .arr 5 (σ.2.2.2 ++ bc (escB σ.2.2.1.data.toList)) true])) (q := 14) (by kernel_rfl) ?_ ?_ ?_ ?_
  · intro ts h c k r hc hk
    unfold g22 at hk
    split at hk
    · rename_i es v w s m h0 h1 h2 h3 h4 h5
      obtain ⟨hl, hk⟩ := br_test hk
      obtain ⟨hm, hk2⟩ := br_test hk
      have hm : m = (s.size : Int) := by simpa using hm
      subst hm
      refine ⟨(v, w, s, es), hl, ?_, by rw [fst_false, br_false_of (by simp)]; exact hk2⟩
      refine Prod.ext (cleaned_pl hc [(0, .all 1), (3, .ptr 2 0), (48, .int .i64 (s.size : Nat)), (49, .int .i64 0)] h1 rfl rfl rfl ?_) ?_
      · simp only [List.forall_mem_cons]
        exact ⟨h2, h3, h4, h5, fun _ h => by cases h⟩
      · dsimp only
        rw [h0, ← take0]; rfl
    · cases hk
  · intro σ i h1 h2 h3 h4; cases h3
  · rintro ⟨v, w, s, es⟩ i h1 h2 h3 h4
    simp only [txtOK, decide_eq_true_eq] at h1
    dsimp only at h2 ⊢
    have hl := escB_length (s.data.toList.take i)
    have hi : i < s.data.toList.length := by simpa using h2
    rw [List.length_take] at hl
    refine (rd22 0 v w s _ (s.size : Nat) (i : Int) (fun e ts h => some (e, ts, h))).trans ((textRound (fun es' => some (Ex.normal, pl 71 [(0, .all 1), (3, .ptr 2 0), (48, .int .i64 (s.size : Nat)), (49, .int .i64 (IntKind.wrap IntKind.i64 (i + 1)))], [.dead, .arr 5 (es') true, b32 v w s])) h2 rfl h1.1 (by rw [List.length_append, bc_length]; omega)).trans ?_)
    rw [wrap_i64 (by omega) (by omega), escB_take hi, bc_append, List.append_assoc]
    rfl
  · rintro ⟨v, w, s, es⟩ h1 h2
    refine ⟨by simp, (rd22 0 v w s _ (s.size : Nat) (s.size : Int) (fun e ts h => some (e, ts, h))).trans ((if_neg (by simp)).trans ?_)⟩
    dsimp only
    rw [List.take_of_length_le (by simp)]

end Go.Proofs.Ytnnogckknlgeiaa
end

section
/- Equations: what the machine prints. -/
set_option linter.unusedVariables false
namespace Go.Proofs.Ytnnogckknlgeiaa
open Go.Pu

abbrev LS3 {R : Type} (B : BT R) : FuncId → Nat → Nat → Option (Smy R) := lsT [(21, 0, 15, g21 B), (22, 0, 14, g22b B), (22, 1, 14, g22 B)]


set_option maxRecDepth 100000 in
theorem ev21 {R : Type} (n : Nat) (v w : Int) (s : ByteArray) (k : PV × Heap → Option R) :
  callK br Try.prog X3 M0 L2 (LS3 br) (n+12) 21 [.agg [.int .i64 v, .int .i64 w, .str s]] [] k =
  br (v == 1)
  (k
    (PV.str
        (strOf
          [[PV.int IntKind.u8 (IntKind.wrap IntKind.u8 (IntKind.wrap IntKind.i64 (v + 1)))],
            [PV.int IntKind.u8 (IntKind.wrap IntKind.u8 w)]]),
      []))
  (br (v == 2)
    (k
      (PV.str
          (strOf
            [[PV.int IntKind.u8 (IntKind.wrap IntKind.u8 (IntKind.wrap IntKind.i64 (v + 1)))],
              [PV.int IntKind.u8
                  (IntKind.wrap IntKind.u8
                    (Int.tmod
                      (IntKind.wrap IntKind.u64
                        (Int.tdiv (IntKind.wrap IntKind.u64 (IntKind.wrap IntKind.u64 w + 9223372036854775808))
                          72057594037927936))
                      256))],
              [PV.int IntKind.u8
                  (IntKind.wrap IntKind.u8
                    (Int.tmod
                      (IntKind.wrap IntKind.u64
                        (Int.tdiv (IntKind.wrap IntKind.u64 (IntKind.wrap IntKind.u64 w + 9223372036854775808))
                          281474976710656))
                      256))],
              [PV.int IntKind.u8
                  (IntKind.wrap IntKind.u8
                    (Int.tmod
                      (IntKind.wrap IntKind.u64
                        (Int.tdiv (IntKind.wrap IntKind.u64 (IntKind.wrap IntKind.u64 w + 9223372036854775808))
                          1099511627776))
                      256))],
              [PV.int IntKind.u8
                  (IntKind.wrap IntKind.u8
                    (Int.tmod
                      (IntKind.wrap IntKind.u64
                        (Int.tdiv (IntKind.wrap IntKind.u64 (IntKind.wrap IntKind.u64 w + 9223372036854775808))
                          4294967296))
                      256))],
              [PV.int IntKind.u8
                  (IntKind.wrap IntKind.u8
                    (Int.tmod
                      (IntKind.wrap IntKind.u64
                        (Int.tdiv (IntKind.wrap IntKind.u64 (IntKind.wrap IntKind.u64 w + 9223372036854775808))
                          16777216))
                      256))],
              [PV.int IntKind.u8
                  (IntKind.wrap IntKind.u8
                    (Int.tmod
                      (IntKind.wrap IntKind.u64
                        (Int.tdiv (IntKind.wrap IntKind.u64 (IntKind.wrap IntKind.u64 w + 9223372036854775808)) 65536))
                      256))],
              [PV.int IntKind.u8
                  (IntKind.wrap IntKind.u8
                    (Int.tmod
                      (IntKind.wrap IntKind.u64
                        (Int.tdiv (IntKind.wrap IntKind.u64 (IntKind.wrap IntKind.u64 w + 9223372036854775808)) 256))
                      256))],
              [PV.int IntKind.u8
                  (IntKind.wrap IntKind.u8
                    (Int.tmod
                      (IntKind.wrap IntKind.u64
                        (Int.tdiv (IntKind.wrap IntKind.u64 (IntKind.wrap IntKind.u64 w + 9223372036854775808)) 1))
                      256))]]),
        []))
    (br (v == 3)
      (br (txtOK s [[PV.int IntKind.u8 (IntKind.wrap IntKind.u8 (IntKind.wrap IntKind.i64 (v + 1)))]])
        (br
          (decide
            ((List.length
                    ([[PV.int IntKind.u8 (IntKind.wrap IntKind.u8 (IntKind.wrap IntKind.i64 (v + 1)))]] ++
                      bc (escB (Array.toList (ByteArray.data s)))) +
                  2) *
                1 ≤
              140737488355328))
          (k
            (PV.str
                (strOf
                  ([[PV.int IntKind.u8 (IntKind.wrap IntKind.u8 (IntKind.wrap IntKind.i64 (v + 1)))]] ++
                      bc (escB (Array.toList (ByteArray.data s))) ++
                    [[PV.int IntKind.u8 0], [PV.int IntKind.u8 1]])),
              []))
          none)
        none)
      (k (PV.str (strOf [[PV.int IntKind.u8 (IntKind.wrap IntKind.u8 (IntKind.wrap IntKind.i64 (v + 1)))]]), [])))) := by
  rw [← callF_eq]; kernel_rfl

set_option maxRecDepth 100000 in
theorem ev22b {R : Type} (n : Nat) (v w : Int) (s : ByteArray) (k : PV × Heap → Option R) :
  callK br Try.prog X3 M0 L2 (LS3 br) (n+12) 22 [.nils, .agg [.int .i64 v, .int .i64 w, .str s]] [] k =
  br (v == 1)
  (k
    (PV.all 0,
      [Blk.arr 5
          [[PV.int IntKind.u8 (IntKind.wrap IntKind.u8 (IntKind.wrap IntKind.i64 (v + 1)))],
            [PV.int IntKind.u8 (IntKind.wrap IntKind.u8 w)]]
          true]))
  (br (v == 2)
    (k
      (PV.all 0,
        [Blk.arr 5
            [[PV.int IntKind.u8 (IntKind.wrap IntKind.u8 (IntKind.wrap IntKind.i64 (v + 1)))],
              [PV.int IntKind.u8
                  (IntKind.wrap IntKind.u8
                    (Int.fdiv (IntKind.wrap IntKind.u64 (IntKind.wrap IntKind.u64 w + 9223372036854775808))
                      72057594037927936))],
              [PV.int IntKind.u8
                  (IntKind.wrap IntKind.u8
                    (Int.fdiv (IntKind.wrap IntKind.u64 (IntKind.wrap IntKind.u64 w + 9223372036854775808))
                      281474976710656))],
              [PV.int IntKind.u8
                  (IntKind.wrap IntKind.u8
                    (Int.fdiv (IntKind.wrap IntKind.u64 (IntKind.wrap IntKind.u64 w + 9223372036854775808))
                      1099511627776))],
              [PV.int IntKind.u8
                  (IntKind.wrap IntKind.u8
                    (Int.fdiv (IntKind.wrap IntKind.u64 (IntKind.wrap IntKind.u64 w + 9223372036854775808))
                      4294967296))],
              [PV.int IntKind.u8
                  (IntKind.wrap IntKind.u8
                    (Int.fdiv (IntKind.wrap IntKind.u64 (IntKind.wrap IntKind.u64 w + 9223372036854775808)) 16777216))],
              [PV.int IntKind.u8
                  (IntKind.wrap IntKind.u8
                    (Int.fdiv (IntKind.wrap IntKind.u64 (IntKind.wrap IntKind.u64 w + 9223372036854775808)) 65536))],
              [PV.int IntKind.u8
                  (IntKind.wrap IntKind.u8
                    (Int.fdiv (IntKind.wrap IntKind.u64 (IntKind.wrap IntKind.u64 w + 9223372036854775808)) 256))],
              [PV.int IntKind.u8
                  (IntKind.wrap IntKind.u8
                    (Int.fdiv (IntKind.wrap IntKind.u64 (IntKind.wrap IntKind.u64 w + 9223372036854775808)) 1))]]
            true]))
    (br (v == 3)
      (br (txtOK s [[PV.int IntKind.u8 (IntKind.wrap IntKind.u8 (IntKind.wrap IntKind.i64 (v + 1)))]])
        (br (decide ((↑(ByteArray.size s) : Int) = (↑(ByteArray.size s) : Int)))
          (br
            (decide
              ((List.length
                      ([[PV.int IntKind.u8 (IntKind.wrap IntKind.u8 (IntKind.wrap IntKind.i64 (v + 1)))]] ++
                        bc (escB (Array.toList (ByteArray.data s)))) +
                    2) *
                  1 ≤
                140737488355328))
            (k
              (PV.all 0,
                [Blk.arr 5
                    ([[PV.int IntKind.u8 (IntKind.wrap IntKind.u8 (IntKind.wrap IntKind.i64 (v + 1)))]] ++
                        bc (escB (Array.toList (ByteArray.data s))) ++
                      [[PV.int IntKind.u8 0], [PV.int IntKind.u8 1]])
                    true]))
            none)
          none)
        none)
      (k
        (PV.all 0,
          [Blk.arr 5 [[PV.int IntKind.u8 (IntKind.wrap IntKind.u8 (IntKind.wrap IntKind.i64 (v + 1)))]] true])))) := by
  rw [← callF_eq]; kernel_rfl

set_option maxRecDepth 100000 in
theorem ev22 {R : Type} (n : Nat) (v w : Int) (s : ByteArray) (es : List (List PV)) (k : PV × Heap → Option R) :
  callK br Try.prog X3 M0 L2 (LS3 br) (n+12) 22 [.all 0, .agg [.int .i64 v, .int .i64 w, .str s]] [.arr 5 es true] k =
  br (decide ((List.length es + 1) * 1 ≤ 140737488355328))
  (br (v == 1)
    (br
      (decide
        ((List.length (es ++ [[PV.int IntKind.u8 (IntKind.wrap IntKind.u8 (IntKind.wrap IntKind.i64 (v + 1)))]]) + 1) *
            1 ≤
          140737488355328))
      (k
        (PV.all 1,
          [Blk.dead,
            Blk.arr 5
              (es ++ [[PV.int IntKind.u8 (IntKind.wrap IntKind.u8 (IntKind.wrap IntKind.i64 (v + 1)))]] ++
                [[PV.int IntKind.u8 (IntKind.wrap IntKind.u8 w)]])
              true]))
      none)
    (br (v == 2)
      (br
        (decide
          ((List.length (es ++ [[PV.int IntKind.u8 (IntKind.wrap IntKind.u8 (IntKind.wrap IntKind.i64 (v + 1)))]]) +
                1) *
              1 ≤
            140737488355328))
        (br
          (decide
            ((List.length
                    (es ++ [[PV.int IntKind.u8 (IntKind.wrap IntKind.u8 (IntKind.wrap IntKind.i64 (v + 1)))]] ++
                      [[PV.int IntKind.u8
                            (IntKind.wrap IntKind.u8
                              (Int.fdiv (IntKind.wrap IntKind.u64 (IntKind.wrap IntKind.u64 w + 9223372036854775808))
                                72057594037927936))]]) +
                  1) *
                1 ≤
              140737488355328))
          (br
            (decide
              ((List.length
                      (es ++ [[PV.int IntKind.u8 (IntKind.wrap IntKind.u8 (IntKind.wrap IntKind.i64 (v + 1)))]] ++
                          [[PV.int IntKind.u8
                                (IntKind.wrap IntKind.u8
                                  (Int.fdiv
                                    (IntKind.wrap IntKind.u64 (IntKind.wrap IntKind.u64 w + 9223372036854775808))
                                    72057594037927936))]] ++
                        [[PV.int IntKind.u8
                              (IntKind.wrap IntKind.u8
                                (Int.fdiv (IntKind.wrap IntKind.u64 (IntKind.wrap IntKind.u64 w + 9223372036854775808))
                                  281474976710656))]]) +
                    1) *
                  1 ≤
                140737488355328))
            (br
              (decide
                ((List.length
                        (es ++ [[PV.int IntKind.u8 (IntKind.wrap IntKind.u8 (IntKind.wrap IntKind.i64 (v + 1)))]] ++
                              [[PV.int IntKind.u8
                                    (IntKind.wrap IntKind.u8
                                      (Int.fdiv
                                        (IntKind.wrap IntKind.u64 (IntKind.wrap IntKind.u64 w + 9223372036854775808))
                                        72057594037927936))]] ++
                            [[PV.int IntKind.u8
                                  (IntKind.wrap IntKind.u8
                                    (Int.fdiv
                                      (IntKind.wrap IntKind.u64 (IntKind.wrap IntKind.u64 w + 9223372036854775808))
                                      281474976710656))]] ++
                          [[PV.int IntKind.u8
                                (IntKind.wrap IntKind.u8
                                  (Int.fdiv
                                    (IntKind.wrap IntKind.u64 (IntKind.wrap IntKind.u64 w + 9223372036854775808))
                                    1099511627776))]]) +
                      1) *
                    1 ≤
                  140737488355328))
              (br
                (decide
                  ((List.length
                          (es ++ [[PV.int IntKind.u8 (IntKind.wrap IntKind.u8 (IntKind.wrap IntKind.i64 (v + 1)))]] ++
                                  [[PV.int IntKind.u8
                                        (IntKind.wrap IntKind.u8
                                          (Int.fdiv
                                            (IntKind.wrap IntKind.u64
                                              (IntKind.wrap IntKind.u64 w + 9223372036854775808))
                                            72057594037927936))]] ++
                                [[PV.int IntKind.u8
                                      (IntKind.wrap IntKind.u8
                                        (Int.fdiv
                                          (IntKind.wrap IntKind.u64 (IntKind.wrap IntKind.u64 w + 9223372036854775808))
                                          281474976710656))]] ++
                              [[PV.int IntKind.u8
                                    (IntKind.wrap IntKind.u8
                                      (Int.fdiv
                                        (IntKind.wrap IntKind.u64 (IntKind.wrap IntKind.u64 w + 9223372036854775808))
                                        1099511627776))]] ++
                            [[PV.int IntKind.u8
                                  (IntKind.wrap IntKind.u8
                                    (Int.fdiv
                                      (IntKind.wrap IntKind.u64 (IntKind.wrap IntKind.u64 w + 9223372036854775808))
                                      4294967296))]]) +
                        1) *
                      1 ≤
                    140737488355328))
                (br
                  (decide
                    ((List.length
                            (es ++ [[PV.int IntKind.u8 (IntKind.wrap IntKind.u8 (IntKind.wrap IntKind.i64 (v + 1)))]] ++
                                      [[PV.int IntKind.u8
                                            (IntKind.wrap IntKind.u8
                                              (Int.fdiv
                                                (IntKind.wrap IntKind.u64
                                                  (IntKind.wrap IntKind.u64 w + 9223372036854775808))
                                                72057594037927936))]] ++
                                    [[PV.int IntKind.u8
                                          (IntKind.wrap IntKind.u8
                                            (Int.fdiv
                                              (IntKind.wrap IntKind.u64
                                                (IntKind.wrap IntKind.u64 w + 9223372036854775808))
                                              281474976710656))]] ++
                                  [[PV.int IntKind.u8
                                        (IntKind.wrap IntKind.u8
                                          (Int.fdiv
                                            (IntKind.wrap IntKind.u64
                                              (IntKind.wrap IntKind.u64 w + 9223372036854775808))
                                            1099511627776))]] ++
                                [[PV.int IntKind.u8
                                      (IntKind.wrap IntKind.u8
                                        (Int.fdiv
                                          (IntKind.wrap IntKind.u64 (IntKind.wrap IntKind.u64 w + 9223372036854775808))
                                          4294967296))]] ++
                              [[PV.int IntKind.u8
                                    (IntKind.wrap IntKind.u8
                                      (Int.fdiv
                                        (IntKind.wrap IntKind.u64 (IntKind.wrap IntKind.u64 w + 9223372036854775808))
                                        16777216))]]) +
                          1) *
                        1 ≤
                      140737488355328))
                  (br
                    (decide
                      ((List.length
                              (es ++
                                            [[PV.int IntKind.u8
                                                  (IntKind.wrap IntKind.u8 (IntKind.wrap IntKind.i64 (v + 1)))]] ++
                                          [[PV.int IntKind.u8
                                                (IntKind.wrap IntKind.u8
                                                  (Int.fdiv
                                                    (IntKind.wrap IntKind.u64
                                                      (IntKind.wrap IntKind.u64 w + 9223372036854775808))
                                                    72057594037927936))]] ++
                                        [[PV.int IntKind.u8
                                              (IntKind.wrap IntKind.u8
                                                (Int.fdiv
                                                  (IntKind.wrap IntKind.u64
                                                    (IntKind.wrap IntKind.u64 w + 9223372036854775808))
                                                  281474976710656))]] ++
                                      [[PV.int IntKind.u8
                                            (IntKind.wrap IntKind.u8
                                              (Int.fdiv
                                                (IntKind.wrap IntKind.u64
                                                  (IntKind.wrap IntKind.u64 w + 9223372036854775808))
                                                1099511627776))]] ++
                                    [[PV.int IntKind.u8
                                          (IntKind.wrap IntKind.u8
                                            (Int.fdiv
                                              (IntKind.wrap IntKind.u64
                                                (IntKind.wrap IntKind.u64 w + 9223372036854775808))
                                              4294967296))]] ++
                                  [[PV.int IntKind.u8
                                        (IntKind.wrap IntKind.u8
                                          (Int.fdiv
                                            (IntKind.wrap IntKind.u64
                                              (IntKind.wrap IntKind.u64 w + 9223372036854775808))
                                            16777216))]] ++
                                [[PV.int IntKind.u8
                                      (IntKind.wrap IntKind.u8
                                        (Int.fdiv
                                          (IntKind.wrap IntKind.u64 (IntKind.wrap IntKind.u64 w + 9223372036854775808))
                                          65536))]]) +
                            1) *
                          1 ≤
                        140737488355328))
                    (br
                      (decide
                        ((List.length
                                (es ++
                                                [[PV.int IntKind.u8
                                                      (IntKind.wrap IntKind.u8 (IntKind.wrap IntKind.i64 (v + 1)))]] ++
                                              [[PV.int IntKind.u8
                                                    (IntKind.wrap IntKind.u8
                                                      (Int.fdiv
                                                        (IntKind.wrap IntKind.u64
                                                          (IntKind.wrap IntKind.u64 w + 9223372036854775808))
                                                        72057594037927936))]] ++
                                            [[PV.int IntKind.u8
                                                  (IntKind.wrap IntKind.u8
                                                    (Int.fdiv
                                                      (IntKind.wrap IntKind.u64
                                                        (IntKind.wrap IntKind.u64 w + 9223372036854775808))
                                                      281474976710656))]] ++
                                          [[PV.int IntKind.u8
                                                (IntKind.wrap IntKind.u8
                                                  (Int.fdiv
                                                    (IntKind.wrap IntKind.u64
                                                      (IntKind.wrap IntKind.u64 w + 9223372036854775808))
                                                    1099511627776))]] ++
                                        [[PV.int IntKind.u8
                                              (IntKind.wrap IntKind.u8
                                                (Int.fdiv
                                                  (IntKind.wrap IntKind.u64
                                                    (IntKind.wrap IntKind.u64 w + 9223372036854775808))
                                                  4294967296))]] ++
                                      [[PV.int IntKind.u8
                                            (IntKind.wrap IntKind.u8
                                              (Int.fdiv
                                                (IntKind.wrap IntKind.u64
                                                  (IntKind.wrap IntKind.u64 w + 9223372036854775808))
                                                16777216))]] ++
                                    [[PV.int IntKind.u8
                                          (IntKind.wrap IntKind.u8
                                            (Int.fdiv
                                              (IntKind.wrap IntKind.u64
                                                (IntKind.wrap IntKind.u64 w + 9223372036854775808))
                                              65536))]] ++
                                  [[PV.int IntKind.u8
                                        (IntKind.wrap IntKind.u8
                                          (Int.fdiv
                                            (IntKind.wrap IntKind.u64
                                              (IntKind.wrap IntKind.u64 w + 9223372036854775808))
                                            256))]]) +
                              1) *
                            1 ≤
                          140737488355328))
                      (k
                        (PV.all 1,
                          [Blk.dead,
                            Blk.arr 5
                              (es ++
                                                [[PV.int IntKind.u8
                                                      (IntKind.wrap IntKind.u8 (IntKind.wrap IntKind.i64 (v + 1)))]] ++
                                              [[PV.int IntKind.u8
                                                    (IntKind.wrap IntKind.u8
                                                      (Int.fdiv
                                                        (IntKind.wrap IntKind.u64
                                                          (IntKind.wrap IntKind.u64 w + 9223372036854775808))
                                                        72057594037927936))]] ++
                                            [[PV.int IntKind.u8
                                                  (IntKind.wrap IntKind.u8
                                                    (Int.fdiv
                                                      (IntKind.wrap IntKind.u64
                                                        (IntKind.wrap IntKind.u64 w + 9223372036854775808))
                                                      281474976710656))]] ++
                                          [[PV.int IntKind.u8
                                                (IntKind.wrap IntKind.u8
                                                  (Int.fdiv
                                                    (IntKind.wrap IntKind.u64
                                                      (IntKind.wrap IntKind.u64 w + 9223372036854775808))
                                                    1099511627776))]] ++
                                        [[PV.int IntKind.u8
                                              (IntKind.wrap IntKind.u8
                                                (Int.fdiv
                                                  (IntKind.wrap IntKind.u64
                                                    (IntKind.wrap IntKind.u64 w + 9223372036854775808))
                                                  4294967296))]] ++
                                      [[PV.int IntKind.u8
                                            (IntKind.wrap IntKind.u8
                                              (Int.fdiv
                                                (IntKind.wrap IntKind.u64
                                                  (IntKind.wrap IntKind.u64 w + 9223372036854775808))
                                                16777216))]] ++
                                    [[PV.int IntKind.u8
                                          (IntKind.wrap IntKind.u8
                                            (Int.fdiv
                                              (IntKind.wrap IntKind.u64
                                                (IntKind.wrap IntKind.u64 w + 9223372036854775808))
                                              65536))]] ++
                                  [[PV.int IntKind.u8
                                        (IntKind.wrap IntKind.u8
                                          (Int.fdiv
                                            (IntKind.wrap IntKind.u64
                                              (IntKind.wrap IntKind.u64 w + 9223372036854775808))
                                            256))]] ++
                                [[PV.int IntKind.u8
                                      (IntKind.wrap IntKind.u8
                                        (Int.fdiv
                                          (IntKind.wrap IntKind.u64 (IntKind.wrap IntKind.u64 w + 9223372036854775808))
                                          1))]])
                              true]))
                      none)
                    none)
                  none)
                none)
              none)
            none)
          none)
        none)
      (br (v == 3)
        (br (txtOK s (es ++ [[PV.int IntKind.u8 (IntKind.wrap IntKind.u8 (IntKind.wrap IntKind.i64 (v + 1)))]]))
          (br (decide ((↑(ByteArray.size s) : Int) = (↑(ByteArray.size s) : Int)))
            (br
              (decide
                ((List.length
                        (es ++ [[PV.int IntKind.u8 (IntKind.wrap IntKind.u8 (IntKind.wrap IntKind.i64 (v + 1)))]] ++
                          bc (escB (Array.toList (ByteArray.data s)))) +
                      2) *
                    1 ≤
                  140737488355328))
              (k
                (PV.all 1,
                  [Blk.dead,
                    Blk.arr 5
                      (es ++ [[PV.int IntKind.u8 (IntKind.wrap IntKind.u8 (IntKind.wrap IntKind.i64 (v + 1)))]] ++
                          bc (escB (Array.toList (ByteArray.data s))) ++
                        [[PV.int IntKind.u8 0], [PV.int IntKind.u8 1]])
                      true]))
              none)
            none)
          none)
        (k
          (PV.all 1,
            [Blk.dead,
              Blk.arr 5 (es ++ [[PV.int IntKind.u8 (IntKind.wrap IntKind.u8 (IntKind.wrap IntKind.i64 (v + 1)))]])
                true])))))
  none := by
  rw [← callF_eq]; kernel_rfl

end Go.Proofs.Ytnnogckknlgeiaa
end

section
/- The Key program: a value's bytes. -/
set_option linter.unusedVariables false
namespace Go.Proofs.Ytnnogckknlgeiaa
open Go.Pu

def u8 (x : Int) : UInt8 := UInt8.ofNat (x % 256).toNat
/-- a whole number, moved to begin at nought -/
def N64 (w : Int) : Int := (w + 9223372036854775808) % 18446744073709551616
def num8 (w : Int) : List UInt8 :=
  [u8 (N64 w / 72057594037927936), u8 (N64 w / 281474976710656), u8 (N64 w / 1099511627776), u8 (N64 w / 4294967296), u8 (N64 w / 16777216), u8 (N64 w / 65536), u8 (N64 w / 256), u8 (N64 w)]

/-- a value's bytes -/
def oneB (v w : Int) (s : List UInt8) : List UInt8 :=
  u8 (v + 1) :: (if v = 1 then [u8 w] else if v = 2 then num8 w else if v = 3 then escB s ++ [0, 1] else [])

/-- a text of bytes -/
def bl (l : List UInt8) : ByteArray := ⟨l.toArray⟩

theorem u8_nat (x : Int) : ((u8 x).toNat : Int) = x % 256 := by
  have h0 : 0 ≤ x % 256 := Int.emod_nonneg _ (by decide)
  have h1 : x % 256 < 256 := Int.emod_lt_of_pos _ (by decide)
  unfold u8
  rw [UInt8.toNat_ofNat']
  omega

theorem cell_u8 (x : Int) : [PV.int IntKind.u8 (IntKind.u8.wrap x)] = [PV.int IntKind.u8 ((u8 x).toNat : Int)] := by
  rw [u8_nat, IntKind.wrap_u8]

theorem cell_u8' {x y : Int} (h : x % 256 = y % 256) : [PV.int IntKind.u8 (IntKind.u8.wrap x)] = [PV.int IntKind.u8 ((u8 y).toNat : Int)] := by
  rw [u8_nat, IntKind.wrap_u8, h]

theorem N64_eq (w : Int) : IntKind.u64.wrap (IntKind.u64.wrap w + 9223372036854775808) = N64 w := by
  rw [IntKind.wrap_u64, IntKind.wrap_u64, N64]; omega

theorem N64_lo (w : Int) : 0 ≤ N64 w := by unfold N64; omega
theorem N64_hi (w : Int) : N64 w < 18446744073709551616 := by unfold N64; omega

theorem by_quo (w d : Int) (hd : 0 < d) : [PV.int IntKind.u8 (IntKind.u8.wrap ((IntKind.u64.wrap ((IntKind.u64.wrap (IntKind.u64.wrap w + 9223372036854775808)).tdiv d)).tmod 256))] = [PV.int IntKind.u8 ((u8 (N64 w / d)).toNat : Int)] := by
  apply cell_u8'
  rw [N64_eq, Int.tdiv_eq_ediv_of_nonneg (N64_lo w)]
  have h1 : 0 ≤ N64 w / d := Int.ediv_nonneg (N64_lo w) (by omega)
  have h2 : N64 w / d ≤ N64 w := Int.ediv_le_self _ (N64_lo w)
  have h3 := N64_hi w
  rw [IntKind.wrap_u64, Int.emod_eq_of_lt h1 (by omega), Int.tmod_eq_emod_of_nonneg h1]
  omega

theorem by_shr (w d : Int) (hd : 0 < d) : [PV.int IntKind.u8 (IntKind.u8.wrap ((IntKind.u64.wrap (IntKind.u64.wrap w + 9223372036854775808)).fdiv d))] = [PV.int IntKind.u8 ((u8 (N64 w / d)).toNat : Int)] := by
  apply cell_u8'
  rw [N64_eq, Int.fdiv_eq_ediv_of_nonneg _ (by omega)]

theorem strOf_bc (l : List UInt8) : strOf (bc l) = bl l := by
  unfold strOf bc bl
  congr 2
  rw [List.map_map]
  conv => rhs; rw [← List.map_id l]
  congr 1
  funext b
  simp [PV.toI]

theorem may_cases {v w : Int} {s : ByteArray} (h : mayV v w s = true) : (v = 0 ∧ w = 0 ∧ s.data.toList = []) ∨ (v = 1 ∧ (w = 0 ∨ w = 1) ∧ s.data.toList = []) ∨ (v = 2 ∧ s.data.toList = []) ∨ (v = 3 ∧ w = 0 ∧ s.size ≤ 1000) := by
  unfold mayV at h
  simp only [ByteArray.toList_eq] at h
  split at h
  · simp_all
  · split at h
    · simp_all
    · split at h
      · simp_all
      · split at h
        · simp only [Bool.and_eq_true, decide_eq_true_eq, beq_iff_eq] at h
          exact .inr (.inr (.inr ⟨by assumption, h.1, by omega⟩))
        · cases h

def gOne : List PV → List Blk → Tr
  | [.agg [.int .i64 v, .int .i64 w, .str s]], [] => .test (mayV v w s) (.ret (.str (bl (oneB v w s.data.toList))) []) .fail
  | _, _ => .fail

theorem num8_quo (w : Int) : [[PV.int IntKind.u8 (IntKind.wrap IntKind.u8 (Int.tmod (IntKind.wrap IntKind.u64 (Int.tdiv (IntKind.wrap IntKind.u64 (IntKind.wrap IntKind.u64 w + 9223372036854775808)) 72057594037927936)) 256))],
              [PV.int IntKind.u8 (IntKind.wrap IntKind.u8 (Int.tmod (IntKind.wrap IntKind.u64 (Int.tdiv (IntKind.wrap IntKind.u64 (IntKind.wrap IntKind.u64 w + 9223372036854775808)) 281474976710656)) 256))],
              [PV.int IntKind.u8 (IntKind.wrap IntKind.u8 (Int.tmod (IntKind.wrap IntKind.u64 (Int.tdiv (IntKind.wrap IntKind.u64 (IntKind.wrap IntKind.u64 w + 9223372036854775808)) 1099511627776)) 256))],
              [PV.int IntKind.u8 (IntKind.wrap IntKind.u8 (Int.tmod (IntKind.wrap IntKind.u64 (Int.tdiv (IntKind.wrap IntKind.u64 (IntKind.wrap IntKind.u64 w + 9223372036854775808)) 4294967296)) 256))],
              [PV.int IntKind.u8 (IntKind.wrap IntKind.u8 (Int.tmod (IntKind.wrap IntKind.u64 (Int.tdiv (IntKind.wrap IntKind.u64 (IntKind.wrap IntKind.u64 w + 9223372036854775808)) 16777216)) 256))],
              [PV.int IntKind.u8 (IntKind.wrap IntKind.u8 (Int.tmod (IntKind.wrap IntKind.u64 (Int.tdiv (IntKind.wrap IntKind.u64 (IntKind.wrap IntKind.u64 w + 9223372036854775808)) 65536)) 256))],
              [PV.int IntKind.u8 (IntKind.wrap IntKind.u8 (Int.tmod (IntKind.wrap IntKind.u64 (Int.tdiv (IntKind.wrap IntKind.u64 (IntKind.wrap IntKind.u64 w + 9223372036854775808)) 256)) 256))],
              [PV.int IntKind.u8 (IntKind.wrap IntKind.u8 (Int.tmod (IntKind.wrap IntKind.u64 (Int.tdiv (IntKind.wrap IntKind.u64 (IntKind.wrap IntKind.u64 w + 9223372036854775808)) 1)) 256))]] = bc (num8 w) := by
  have h1 := by_quo w 1 (by decide)
  rw [Int.ediv_one] at h1
  rw [by_quo w _ (by decide), by_quo w _ (by decide), by_quo w _ (by decide), by_quo w _ (by decide), by_quo w _ (by decide), by_quo w _ (by decide), by_quo w _ (by decide), h1]
  rfl

theorem ls3_ok {R : Type} : LoopsOK (R := R) Try.prog X3 M0 L2 (LS3 br) := loopsOK_list rids fun e h => by
  simp only [List.mem_cons, List.not_mem_nil, or_false] at h
  rcases h with rfl | rfl | rfl
  · exact loop21
  · exact loop22b
  · exact loop22

theorem tells21 : Tells Try.prog X3 M0 L2 (LS3 br) 21 gOne := by
  intro zs hc r hg
  unfold gOne at hg
  split at hg
  · rename_i v w s
    obtain ⟨h1, rfl⟩ := val_test hg
    refine ⟨12, (ev21 0 v w s _).trans ?_⟩
    rcases may_cases h1 with ⟨rfl, rfl, hs⟩ | ⟨rfl, hw, hs⟩ | ⟨rfl, hs⟩ | ⟨rfl, rfl, hs⟩
    · refine (if_neg (by decide)).trans ((if_neg (by decide)).trans ((if_neg (by decide)).trans ?_))
      rw [← strOf_bc]; rfl
    · refine (if_pos (by decide)).trans ?_
      rw [← strOf_bc]
      rcases hw with rfl | rfl <;> rfl
    · refine (if_neg (by decide)).trans ((if_pos (by decide)).trans ?_)
      rw [← strOf_bc]
      have e : bc (oneB 2 w s.data.toList) = [PV.int IntKind.u8 3] :: bc (num8 w) := rfl
      rw [e, ← num8_quo w]
      rfl
    · refine (if_neg (by decide)).trans ((if_neg (by decide)).trans ((if_pos (by decide)).trans ((if_pos ?_).trans ((if_pos ?_).trans ?_))))
      · simp [txtOK]; omega
      · have := escB_length s.data.toList
        refine decide_eq_true ?_
        rw [List.length_append, bc_length]
        have : s.data.toList.length = s.size := by simp
        simp only [List.length_cons, List.length_nil]
        omega
      · rw [← strOf_bc]
        have e : bc (oneB 3 0 s.data.toList) = [PV.int IntKind.u8 4] :: bc (escB s.data.toList ++ [0, 1]) := rfl
        rw [e, bc_append]
        rfl
  · cases hg

end Go.Proofs.Ytnnogckknlgeiaa
end

section
/- The Key program: a value's bytes, put behind others. -/
set_option linter.unusedVariables false
namespace Go.Proofs.Ytnnogckknlgeiaa
open Go.Pu

def gOne22 : List PV → List Blk → Tr
  | [.nils, .agg [.int .i64 v, .int .i64 w, .str s]], [] => .test (mayV v w s) (.ret (.all 0) [.arr 5 (bc (oneB v w s.data.toList)) true]) .fail
  | [.all 0, .agg [.int .i64 v, .int .i64 w, .str s]], [.arr 5 es true] =>
    .test (mayV v w s && decide (es.length ≤ 999999999999)) (.ret (.all 1) [.dead, .arr 5 (es ++ bc (oneB v w s.data.toList)) true]) .fail
  | _, _ => .fail

theorem shr1 (w : Int) : [PV.int IntKind.u8 (IntKind.u8.wrap ((IntKind.u64.wrap (IntKind.u64.wrap w + 9223372036854775808)).fdiv 1))] = [PV.int IntKind.u8 ((u8 (N64 w)).toNat : Int)] := by
  have := by_shr w 1 (by decide)
  rwa [Int.ediv_one] at this

theorem tells22 : Tells Try.prog X3 M0 L2 (LS3 br) 22 gOne22 := by
  intro zs hc r hg
  unfold gOne22 at hg
  split at hg
  · rename_i v w s
    obtain ⟨h1, rfl⟩ := val_test hg
    refine ⟨12, (ev22b 0 v w s _).trans ?_⟩
    rcases may_cases h1 with ⟨rfl, rfl, hs⟩ | ⟨rfl, hw, hs⟩ | ⟨rfl, hs⟩ | ⟨rfl, rfl, hs⟩
    · exact (if_neg (by decide)).trans ((if_neg (by decide)).trans ((if_neg (by decide)).trans rfl))
    · refine (if_pos (by decide)).trans ?_
      rcases hw with rfl | rfl <;> rfl
    · refine (if_neg (by decide)).trans ((if_pos (by decide)).trans ?_)
      rw [by_shr w _ (by decide), by_shr w _ (by decide), by_shr w _ (by decide), by_shr w _ (by decide), by_shr w _ (by decide), by_shr w _ (by decide), by_shr w _ (by decide), shr1]
      rfl
    · have := escB_length s.data.toList
      have hsz : s.data.toList.length = s.size := by simp
      refine (if_neg (by decide)).trans ((if_neg (by decide)).trans ((if_pos (by decide)).trans ((if_pos ?_).trans ((if_pos (decide_eq_true rfl)).trans ((if_pos ?_).trans ?_)))))
      · simp [txtOK]; omega
      · refine decide_eq_true ?_
        rw [List.length_append, bc_length]
        simp only [List.length_cons, List.length_nil]
        omega
      · have e : bc (oneB 3 0 s.data.toList) = [PV.int IntKind.u8 4] :: bc (escB s.data.toList ++ [0, 1]) := rfl
        rw [e, bc_append]
        rfl
  · rename_i v w s es
    obtain ⟨h1, rfl⟩ := val_test hg
    simp only [Bool.and_eq_true, decide_eq_true_eq] at h1
    obtain ⟨h1, hl⟩ := h1
    refine ⟨12, (ev22 0 v w s es _).trans ((if_pos (decide_eq_true (by omega))).trans ?_)⟩
    rcases may_cases h1 with ⟨rfl, rfl, hs⟩ | ⟨rfl, hw, hs⟩ | ⟨rfl, hs⟩ | ⟨rfl, rfl, hs⟩
    · exact (if_neg (by decide)).trans ((if_neg (by decide)).trans ((if_neg (by decide)).trans rfl))
    · refine (if_pos (by decide)).trans ((if_pos (decide_eq_true (by simp only [List.length_append, List.length_cons, List.length_nil]; omega))).trans ?_)
      rw [List.append_assoc]
      rcases hw with rfl | rfl <;> rfl
    · refine (if_neg (by decide)).trans ((if_pos (by decide)).trans ?_)
      iterate 8 refine (if_pos (decide_eq_true (by simp only [List.length_append, List.length_cons, List.length_nil]; omega))).trans ?_
      rw [by_shr w _ (by decide), by_shr w _ (by decide), by_shr w _ (by decide), by_shr w _ (by decide), by_shr w _ (by decide), by_shr w _ (by decide), by_shr w _ (by decide), shr1]
      simp only [List.append_assoc]
      rfl
    · have := escB_length s.data.toList
      have hsz : s.data.toList.length = s.size := by simp
      refine (if_neg (by decide)).trans ((if_neg (by decide)).trans ((if_pos (by decide)).trans ((if_pos ?_).trans ((if_pos (decide_eq_true rfl)).trans ((if_pos ?_).trans ?_)))))
      · simp [txtOK]; omega
      · refine decide_eq_true ?_
        rw [List.length_append, bc_length]
        simp only [List.length_append, List.length_cons, List.length_nil]
        omega
      · have e : bc (oneB 3 0 s.data.toList) = [PV.int IntKind.u8 4] :: bc (escB s.data.toList ++ [0, 1]) := rfl
        rw [e, bc_append]
        simp only [List.append_assoc]
        rfl
  · cases hg

abbrev X4 : Ext := extT [(21, gOne), (22, gOne22)] X3

theorem x4 : XOK Try.prog X4 := by
  refine xokT x3 ?_
  simp only [List.forall_mem_cons]
  exact ⟨eok mixed named x3 ls3_ok tells21, eok mixed named x3 ls3_ok tells22, fun _ h => by cases h⟩

end Go.Proofs.Ytnnogckknlgeiaa
end

section
/- Equations: what the machine prints. -/
set_option linter.unusedVariables false
namespace Go.Proofs.Ytnnogckknlgeiaa
open Go.Pu


set_option maxRecDepth 100000 in
theorem rd12z {R : Type} (n : Nat) (z : ByteArray) (es : List (List PV)) (m i : Int) (k : Ex → List PV → Heap → Option R) :
  runK br Try.prog (callK br Try.prog X4 M0 L2 (fun _ _ _ => none) (n+9)) M0 (fun _ => none) (n+9) 0 (L2 12) (bodyOf Try.prog 12 3) (pl 21 [(2, .str z), (3, .nils), (6, .lst 32 es), (7, .int .i64 m), (8, .int .i64 i)]) [] (fun e ts h => (cleanX 0 (L2 12) 3 e ts h).bind fun c => k e c.1 c.2) =
  br (decide (i < m))
  (br (decide (0 ≤ i ∧ i < (↑(List.length es) : Int)))
    (br
      (!mayV (PV.toI (List.getD (List.getD es (Int.toNat i) []) 0 PV.top))
          (PV.toI (List.getD (List.getD es (Int.toNat i) []) 1 PV.top))
          (PV.toS (List.getD (List.getD es (Int.toNat i) []) 2 PV.top)))
      (k Ex.ret (pl 21 [(2, PV.str { data := #[] })]) [])
      (br
        (mayV (PV.toI (List.getD (List.getD es (Int.toNat i) []) 0 PV.top))
          (PV.toI (List.getD (List.getD es (Int.toNat i) []) 1 PV.top))
          (PV.toS (List.getD (List.getD es (Int.toNat i) []) 2 PV.top)))
        (k Ex.normal
          (pl 21
            [(2, PV.str z), (3, PV.all 0), (6, PV.lst 32 es), (7, PV.int IntKind.i64 m),
              (8, PV.int IntKind.i64 (IntKind.wrap IntKind.i64 (i + 1)))])
          [Blk.arr 5
              (bc
                (oneB (PV.toI (List.getD (List.getD es (Int.toNat i) []) 0 PV.top))
                  (PV.toI (List.getD (List.getD es (Int.toNat i) []) 1 PV.top))
                  (Array.toList (ByteArray.data (PV.toS (List.getD (List.getD es (Int.toNat i) []) 2 PV.top))))))
              true])
        none))
    none)
  (k (Ex.exit 0) (pl 21 [(3, PV.nils)]) []) := by
  rw [← callF_eq, ← runF_eq]; kernel_rfl

set_option maxRecDepth 100000 in
theorem rd12 {R : Type} (n : Nat) (z : ByteArray) (es bs : List (List PV)) (m i : Int) (k : Ex → List PV → Heap → Option R) :
  runK br Try.prog (callK br Try.prog X4 M0 L2 (fun _ _ _ => none) (n+9)) M0 (fun _ => none) (n+9) 0 (L2 12) (bodyOf Try.prog 12 3) (pl 21 [(2, .str z), (3, .all 0), (6, .lst 32 es), (7, .int .i64 m), (8, .int .i64 i)]) [.arr 5 bs true] (fun e ts h => (cleanX 0 (L2 12) 3 e ts h).bind fun c => k e c.1 c.2) =
  br (decide (i < m))
  (br (decide (0 ≤ i ∧ i < (↑(List.length es) : Int)))
    (br
      (!mayV (PV.toI (List.getD (List.getD es (Int.toNat i) []) 0 PV.top))
          (PV.toI (List.getD (List.getD es (Int.toNat i) []) 1 PV.top))
          (PV.toS (List.getD (List.getD es (Int.toNat i) []) 2 PV.top)))
      (k Ex.ret (pl 21 [(2, PV.str { data := #[] })]) [])
      (br
        (mayV (PV.toI (List.getD (List.getD es (Int.toNat i) []) 0 PV.top))
            (PV.toI (List.getD (List.getD es (Int.toNat i) []) 1 PV.top))
            (PV.toS (List.getD (List.getD es (Int.toNat i) []) 2 PV.top)) &&
          decide (List.length bs ≤ 999999999999))
        (k Ex.normal
          (pl 21
            [(2, PV.str z), (3, PV.all 0), (6, PV.lst 32 es), (7, PV.int IntKind.i64 m),
              (8, PV.int IntKind.i64 (IntKind.wrap IntKind.i64 (i + 1)))])
          [Blk.arr 5
              (bs ++
                bc
                  (oneB (PV.toI (List.getD (List.getD es (Int.toNat i) []) 0 PV.top))
                    (PV.toI (List.getD (List.getD es (Int.toNat i) []) 1 PV.top))
                    (Array.toList (ByteArray.data (PV.toS (List.getD (List.getD es (Int.toNat i) []) 2 PV.top))))))
              true])
        none))
    none)
  (k (Ex.exit 0) (pl 21 [(3, PV.all 0)]) [Blk.arr 5 bs true]) := by
  rw [← callF_eq, ← runF_eq]; kernel_rfl

set_option maxRecDepth 100000 in
theorem rd13 {R : Type} (n : Nat) (es : List (List PV)) (s : ByteArray) (i : Int) (k : Ex → List PV → Heap → Option R) :
  runK br Try.prog (callK br Try.prog X4 M0 L2 (fun _ _ _ => none) (n+9)) M0 (fun _ => none) (n+9) 0 (L2 13) (bodyOf Try.prog 13 3) (pl 23 [(0, .lst 32 es), (3, .str s), (4, .int .i64 i)]) [] (fun e ts h => (cleanX 0 (L2 13) 3 e ts h).bind fun c => k e c.1 c.2) =
  br (decide (i < (↑(List.length es) : Int)))
  (br (decide (List.length es < 4611686018427387904))
    (br (mayL es)
      (br (decide (0 ≤ i ∧ i < (↑(List.length es) : Int)))
        (br
          (mayV (PV.toI (List.getD (List.getD es (Int.toNat i) []) 0 PV.top))
            (PV.toI (List.getD (List.getD es (Int.toNat i) []) 1 PV.top))
            (PV.toS (List.getD (List.getD es (Int.toNat i) []) 2 PV.top)))
          (br
            (decide
              (ByteArray.size s +
                  ByteArray.size
                    (bl
                      (oneB (PV.toI (List.getD (List.getD es (Int.toNat i) []) 0 PV.top))
                        (PV.toI (List.getD (List.getD es (Int.toNat i) []) 1 PV.top))
                        (Array.toList
                          (ByteArray.data (PV.toS (List.getD (List.getD es (Int.toNat i) []) 2 PV.top)))))) ≤
                9223372036854775807))
            (k Ex.normal
              (pl 23
                [(0, PV.lst 32 es),
                  (3,
                    PV.str
                      (s ++
                        bl
                          (oneB (PV.toI (List.getD (List.getD es (Int.toNat i) []) 0 PV.top))
                            (PV.toI (List.getD (List.getD es (Int.toNat i) []) 1 PV.top))
                            (Array.toList
                              (ByteArray.data (PV.toS (List.getD (List.getD es (Int.toNat i) []) 2 PV.top))))))),
                  (4, PV.int IntKind.i64 (IntKind.wrap IntKind.i64 (i + 1)))])
              [])
            none)
          none)
        none)
      (k (Ex.exit 0) (pl 23 [(3, PV.str s)]) []))
    none)
  (k (Ex.exit 0) (pl 23 [(3, PV.str s)]) []) := by
  rw [← callF_eq, ← runF_eq]; kernel_rfl

end Go.Proofs.Ytnnogckknlgeiaa
end

section
/- The Key program: lists' bytes. -/
set_option linter.unusedVariables false
namespace Go.Proofs.Ytnnogckknlgeiaa
open Go.Pu

def oneE (e : List PV) : List UInt8 := oneB (e.getD 0 .top).toI (e.getD 1 .top).toI (e.getD 2 .top).toS.data.toList
/-- a list's bytes -/
def encB (es : List (List PV)) : List UInt8 := es.flatMap oneE
def encL (es : List (List PV)) : List UInt8 := if mayL es = true then encB es else []

theorem oneB_length {v w : Int} {s : ByteArray} (h : mayV v w s = true) : (oneB v w s.data.toList).length ≤ 2003 := by
  have hl := escB_length s.data.toList
  have hs : s.data.toList.length = s.size := by simp
  rcases may_cases h with ⟨h1, h2, h3⟩ | ⟨h1, h2, h3⟩ | ⟨h1, h3⟩ | ⟨h1, h2, h3⟩ <;> subst h1
  · exact Nat.le_add_left 1 2002
  · exact Nat.le_add_left 2 2001
  · exact Nat.le_add_left 9 1994
  · have e : oneB 3 w s.data.toList = u8 (3 + 1) :: (escB s.data.toList ++ [0, 1]) := rfl
    rw [e, List.length_cons, List.length_append]
    simp only [List.length_cons, List.length_nil]
    omega

theorem oneE_length {e : List PV} (h : mayE e = true) : (oneE e).length ≤ 2003 := oneB_length h

theorem encB_length : ∀ {es : List (List PV)}, (∀ e ∈ es, mayE e = true) → (encB es).length ≤ 2003 * es.length
  | [], _ => by simp [encB]
  | e :: es, h => by
    have h1 := oneE_length (h e (by simp))
    have h2 := encB_length (es := es) fun e he => h e (by simp [he])
    simp only [encB, List.flatMap_cons, List.length_append, List.length_cons] at h2 ⊢
    omega

theorem encB_take {es : List (List PV)} {i : Nat} (h : i < es.length) : encB (es.take (i + 1)) = encB (es.take i) ++ oneE (es.getD i []) := by
  have e : es[i]?.toList = [es.getD i []] := by simp [List.getD, h]
  rw [List.take_add_one, e]
  unfold encB
  rw [List.flatMap_append, List.flatMap_cons, List.flatMap_nil, List.append_nil]

theorem take_may {es : List (List PV)} {i : Nat} (h : ∀ j < i, noMay es j = false) : ∀ e ∈ es.take i, mayE e = true := by
  intro e he
  obtain ⟨j, hj, rfl⟩ := List.mem_iff_getElem.1 he
  rw [List.length_take] at hj
  have := h j (by omega)
  simp only [noMay, Bool.not_eq_false'] at this
  rw [List.getElem_take]
  have hj2 : j < es.length := by omega
  simpa [List.getD, hj2] using this

theorem fst_may (es : List (List PV)) : decide (fst (noMay es) es.length < es.length) = !mayL es := by
  have := fst_all (fun e => !mayE e) es
  simp only [Bool.not_not] at this
  exact this

def g12 {R : Type} (B : BT R) : Smy R := fun ts h k =>
  match h, ts.length, ts.getD 2 .top, ts.getD 3 .top, ts.getD 6 .top, ts.getD 7 .top, ts.getD 8 .top with
  | [], 21, .str z, .nils, .lst 32 es, .int .i64 m, .int .i64 0 =>
    B (decide (m = es.length ∧ es.length ≤ 1000000 ∧ z.size = 0)) (B (mayL es)
      (B (decide (es.length = 0)) (k (.exit 0) (pl 21 [(3, .nils)]) []) (k (.exit 0) (pl 21 [(3, .all 0)]) [.arr 5 (bc (encB es)) true]))
      (k .ret (pl 21 [(2, .str (bl []))]) [])) none
  | _, _, _, _, _, _, _ => none

theorem bl_of_size {z : ByteArray} (h : z.size = 0) : z = bl [] := by
  have : z.data.size = 0 := h
  cases z with
  | mk d => simp at this; subst this; rfl

abbrev TE := List (List PV)

def enc12 (es : TE) (i : Nat) : List PV × Heap :=
  if i = 0 then (pl 21 [(2, .str (bl [])), (3, .nils), (6, .lst 32 es), (7, .int .i64 (es.length : Nat)), (8, .int .i64 0)], [])
  else (pl 21 [(2, .str (bl [])), (3, .all 0), (6, .lst 32 es), (7, .int .i64 (es.length : Nat)), (8, .int .i64 (i : Nat))], [.arr 5 (bc (encB (es.take i))) true])

def fin12 (es : TE) : Out := if es.length = 0 then (.exit 0, pl 21 [(3, .nils)], []) else (.exit 0, pl 21 [(3, .all 0)], [.arr 5 (bc (encB es)) true])

theorem loop12 {R : Type} : LoopTells Try.prog X4 M0 L2 0 (L2 12) (bodyOf Try.prog 12 3) (g12 (R := R) br) := by
  refine search_of (n := 9) (callK0 9) lsok_none (fun es : TE => es.length ≤ 1000000) (fun es => es.length) noMay enc12
    (fun es i => (.ret, pl 21 [(2, .str (bl []))], [])) fin12 (q := 3) (by kernel_rfl) ?_ ?_ ?_ ?_
  · intro ts h c k r hc hk
    unfold g12 at hk
    split at hk
    · rename_i z es m h0 h1 h2 h3 h4 h5 h6
      obtain ⟨hl, hk2⟩ := br_test hk
      clear hk
      simp only [decide_eq_true_eq] at hl
      obtain ⟨rfl, hl, hz⟩ := hl
      have hz := bl_of_size hz
      subst hz
      refine ⟨es, hl, ?_, ?_⟩
      · refine Prod.ext (cleaned_pl hc [(2, .str (bl [])), (3, .nils), (6, .lst 32 es), (7, .int .i64 (es.length : Nat)), (8, .int .i64 0)] h1 rfl rfl rfl ?_) h0
        simp only [List.forall_mem_cons]
        exact ⟨h2, h3, h4, h5, h6, fun _ h => by cases h⟩
      · rw [fst_may]
        by_cases hm : mayL es = true
        · rw [hm]
          rw [hm] at hk2
          refine Eq.trans ?_ hk2
          refine (br_false_of rfl).trans ?_
          unfold fin12
          by_cases he : es.length = 0
          · rw [if_pos he]; exact (if_pos (decide_eq_true he)).symm
          · rw [if_neg he]; exact (if_neg (by simpa using he)).symm
        · have hm' : mayL es = false := by simpa using hm
          rw [hm']
          rw [hm'] at hk2
          exact hk2
    · cases hk
  · intro es i h1 h2 h3 h4
    refine ⟨by simp, ?_⟩
    by_cases h0 : i = 0
    · subst h0
      exact (rd12z 0 (bl []) es (es.length : Nat) 0 (fun e ts h => some (e, ts, h))).trans ((if_pos (decide_eq_true (by omega))).trans ((if_pos (decide_eq_true (by omega))).trans (if_pos h3)))
    · simp only [enc12, if_neg h0]
      exact (rd12 0 (bl []) es _ (es.length : Nat) (i : Nat) (fun e ts h => some (e, ts, h))).trans ((if_pos (decide_eq_true (by omega))).trans ((if_pos (decide_eq_true (by omega))).trans (if_pos h3)))
  · intro es i h1 h2 h3 h4
    have hm : mayE (es.getD i []) = true := by simpa [noMay] using h3
    have ht := encB_take h2
    by_cases h0 : i = 0
    · subst h0
      refine (rd12z 0 (bl []) es (es.length : Nat) 0 (fun e ts h => some (e, ts, h))).trans ((if_pos (decide_eq_true (by omega))).trans ((if_pos (decide_eq_true (by omega))).trans ((if_neg (ne_true_of_eq_false h3)).trans ((if_pos hm).trans ?_))))
      simp only [enc12, if_neg (Nat.succ_ne_zero 0), ht]
      rfl
    · have hl := encB_length (take_may h4)
      rw [List.length_take] at hl
      simp only [enc12, if_neg h0, if_neg (Nat.succ_ne_zero i)]
      refine (rd12 0 (bl []) es _ (es.length : Nat) (i : Nat) (fun e ts h => some (e, ts, h))).trans ((if_pos (decide_eq_true (by omega))).trans ((if_pos (decide_eq_true (by omega))).trans ((if_neg (ne_true_of_eq_false h3)).trans ((if_pos ?_).trans ?_))))
      · rw [Bool.and_eq_true]
        exact ⟨hm, decide_eq_true (by rw [bc_length]; omega)⟩
      · rw [wrap_i64 (by omega) (by omega), ht, bc_append]
        rfl
  · intro es h1 h2
    unfold fin12
    by_cases he : es.length = 0
    · rw [if_pos he]
      refine ⟨by simp, ?_⟩
      simp only [enc12, if_pos he]
      exact (rd12z 0 (bl []) es (es.length : Nat) 0 (fun e ts h => some (e, ts, h))).trans (if_neg (by rw [decide_eq_true_eq]; omega))
    · rw [if_neg he]
      refine ⟨by simp, ?_⟩
      simp only [enc12, if_neg he]
      rw [List.take_length]
      exact (rd12 0 (bl []) es _ (es.length : Nat) (es.length : Nat) (fun e ts h => some (e, ts, h))).trans (if_neg (by simp))

theorem bl_append (a b : List UInt8) : bl a ++ bl b = bl (a ++ b) := by
  apply ByteArray.ext
  simp [bl]

theorem bl_size (a : List UInt8) : (bl a).size = a.length := by simp [bl, ByteArray.size]

def g13 {R : Type} (B : BT R) : Smy R := fun ts h k =>
  match h, ts.length, ts.getD 0 .top, ts.getD 3 .top, ts.getD 4 .top with
  | [], 23, .lst 32 es, .str z, .int .i64 0 =>
    B (decide (es.length ≤ 1000000 ∧ z.size = 0)) (k (.exit 0) (pl 23 [(3, .str (bl (encL es)))]) []) none
  | _, _, _, _, _ => none

theorem loop13 {R : Type} : LoopTells Try.prog X4 M0 L2 0 (L2 13) (bodyOf Try.prog 13 3) (g13 (R := R) br) := by
  refine search_of (n := 9) (callK0 9) lsok_none (fun es : TE => es.length ≤ 1000000) (fun es => if mayL es = true then es.length else 0) (fun _ _ => false)
    (fun es i => (pl 23 [(0, .lst 32 es), (3, .str (bl (encB (es.take i)))), (4, .int .i64 (i : Nat))], []))
    (fun es i => (.ret, [], [])) (fun es => (.exit 0, pl 23 [(3, .str (bl (encL es)))], [])) (q := 3) (by kernel_rfl) ?_ ?_ ?_ ?_
  · intro ts h c k r hc hk
    unfold g13 at hk
    split at hk
    · rename_i es z h0 h1 h2 h3 h4
      obtain ⟨hl, hk2⟩ := br_test hk
      clear hk
      simp only [decide_eq_true_eq] at hl
      have hz := bl_of_size hl.2
      subst hz
      refine ⟨es, hl.1, ?_, by rw [fst_false, br_false_of (by simp)]; exact hk2⟩
      refine Prod.ext (cleaned_pl hc [(0, .lst 32 es), (3, .str (bl [])), (4, .int .i64 0)] h1 rfl rfl rfl ?_) h0
      simp only [List.forall_mem_cons]
      exact ⟨h2, h3, h4, fun _ h => by cases h⟩
    · cases hk
  · intro es i h1 h2 h3 h4; cases h3
  · intro es i h1 h2 h3 h4
    have hm : mayL es = true := by
      by_cases h : mayL es = true
      · exact h
      · rw [if_neg h] at h2; omega
    rw [if_pos hm] at h2
    have hall : ∀ e ∈ es, mayE e = true := by simpa [mayL] using hm
    have hme : mayE (es.getD i []) = true := by
      have : es.getD i [] = es[i] := by simp [List.getD, h2]
      rw [this]; exact hall _ (List.getElem_mem h2)
    have hl := encB_length (es := es.take i) fun e he => hall e (List.mem_of_mem_take he)
    have hl2 := oneE_length hme
    rw [List.length_take] at hl
    refine (rd13 0 es _ (i : Nat) (fun e ts h => some (e, ts, h))).trans ((if_pos (decide_eq_true (by omega))).trans ((if_pos (decide_eq_true (by omega))).trans ((if_pos hm).trans ((if_pos (decide_eq_true (by omega))).trans ((if_pos hme).trans ((if_pos (decide_eq_true ?_)).trans ?_))))))
    · rw [bl_size, bl_size, Int.toNat_natCast]
      unfold oneE at hl2
      omega
    · rw [wrap_i64 (by omega) (by omega), bl_append, encB_take h2]
      rfl
  · intro es h1 h2
    refine ⟨by simp, ?_⟩
    by_cases hm : mayL es = true
    · simp only [if_pos hm, encL]
      rw [List.take_length]
      exact (rd13 0 es _ (es.length : Nat) (fun e ts h => some (e, ts, h))).trans (if_neg (by simp))
    · simp only [if_neg hm, encL]
      refine (rd13 0 es _ (0 : Nat) (fun e ts h => some (e, ts, h))).trans ?_
      by_cases he : es.length = 0
      · exact if_neg (by rw [decide_eq_true_eq]; omega)
      · exact (if_pos (decide_eq_true (by omega))).trans ((if_pos (decide_eq_true (by omega))).trans (if_neg hm))

end Go.Proofs.Ytnnogckknlgeiaa
end

section
/- Equations: what the machine prints. -/
set_option linter.unusedVariables false
namespace Go.Proofs.Ytnnogckknlgeiaa
open Go.Pu

abbrev LS4 {R : Type} (B : BT R) : FuncId → Nat → Nat → Option (Smy R) := lsT [(12, 0, 3, g12 B), (13, 0, 3, g13 B)]


set_option maxRecDepth 100000 in
theorem ev12 {R : Type} (n : Nat) (es : List (List PV)) (k : PV × Heap → Option R) :
  callK br Try.prog X4 M0 L2 (LS4 br) (n+12) 12 [.lst 32 es] [] k =
  br (decide ((↑(List.length es) : Int) = (↑(List.length es) : Int) ∧ List.length es ≤ 1000000 ∧ 0 = 0))
  (br (mayL es) (br (decide (List.length es = 0)) (k (PV.str (strOf []), [])) (k (PV.str (strOf (bc (encB es))), [])))
    (k (PV.str (bl []), [])))
  none := by
  rw [← callF_eq]; kernel_rfl

set_option maxRecDepth 100000 in
theorem ev12n {R : Type} (n : Nat)  (k : PV × Heap → Option R) :
  callK br Try.prog X4 M0 L2 (fun _ _ _ => none) (n+12) 12 [.nils] [] k =
  k (PV.str (strOf []), []) := by
  rw [← callF_eq]; kernel_rfl

set_option maxRecDepth 100000 in
theorem ev13 {R : Type} (n : Nat) (es : List (List PV)) (k : PV × Heap → Option R) :
  callK br Try.prog X4 M0 L2 (LS4 br) (n+12) 13 [.lst 32 es] [] k =
  br (decide (List.length es ≤ 1000000 ∧ 0 = 0)) (k (PV.str (bl (encL es)), [])) none := by
  rw [← callF_eq]; kernel_rfl

set_option maxRecDepth 100000 in
theorem ev16a {R : Type} (n : Nat) (ys : List (List PV)) (k : PV × Heap → Option R) :
  callK br Try.prog X2 M0 L1 (fun _ _ _ => none) (n+12) 16 [.nils, .lst 32 ys] [] k =
  br (decide (0 < (↑(List.length ys) : Int))) (k (PV.bool false, [])) (k (PV.bool true, [])) := by
  rw [← callF_eq]; kernel_rfl

set_option maxRecDepth 100000 in
theorem ev16b {R : Type} (n : Nat) (xs : List (List PV)) (k : PV × Heap → Option R) :
  callK br Try.prog X2 M0 L1 (fun _ _ _ => none) (n+12) 16 [.lst 32 xs, .nils] [] k =
  br (decide (0 < (↑(List.length xs) : Int)))
  (br (decide ((↑(List.length xs) : Int) > 0)) (k (PV.bool false, [])) (k (PV.bool true, [])))
  (br (decide ((↑(List.length xs) : Int) > 0)) (k (PV.bool false, [])) (k (PV.bool true, []))) := by
  rw [← callF_eq]; kernel_rfl

set_option maxRecDepth 100000 in
theorem ev16c {R : Type} (n : Nat)  (k : PV × Heap → Option R) :
  callK br Try.prog X2 M0 L1 (fun _ _ _ => none) (n+12) 16 [.nils, .nils] [] k =
  k (PV.bool true, []) := by
  rw [← callF_eq]; kernel_rfl

end Go.Proofs.Ytnnogckknlgeiaa
end

section
/- The Key program: encoding, told; lists that may be nil. -/
set_option linter.unusedVariables false
namespace Go.Proofs.Ytnnogckknlgeiaa
open Go.Pu

def gEnc : List PV → List Blk → Tr
  | [.lst 32 es], [] => .test (decide (es.length ≤ 1000000)) (.ret (.str (bl (encL es))) []) .fail
  | _, _ => .fail

def gEncN : List PV → List Blk → Tr
  | [.nils], [] => .ret (.str (bl [])) []
  | _, _ => .fail

def gEncA : List PV → List Blk → Tr
  | [.lst 32 es], [] => .test (decide (es.length ≤ 1000000)) (.ret (.str (bl (encL es))) []) .fail
  | [.nils], [] => .ret (.str (bl [])) []
  | _, _ => .fail

theorem ls4_ok {R : Type} : LoopsOK (R := R) Try.prog X4 M0 L2 (LS4 br) := loopsOK_list rids fun e h => by
  simp only [List.mem_cons, List.not_mem_nil, or_false] at h
  rcases h with rfl | rfl
  · exact loop12
  · exact loop13

theorem tells12 : Tells Try.prog X4 M0 L2 (LS4 br) 12 gEnc := by
  intro zs hc r hg
  unfold gEnc at hg
  split at hg
  · rename_i es
    obtain ⟨h1, rfl⟩ := val_test hg
    refine ⟨12, (ev12 0 es _).trans ((if_pos (by simpa using h1)).trans ?_)⟩
    unfold encL
    by_cases hm : mayL es = true
    · rw [hm]
      by_cases he : es.length = 0
      · have : es = [] := List.length_eq_zero_iff.1 he
        subst this; rfl
      · refine (if_pos rfl).trans ((if_neg (by simpa using he)).trans ?_)
        rw [strOf_bc]; rfl
    · have hm' : mayL es = false := by simpa using hm
      rw [hm']; rfl
  · cases hg

theorem tells12n : Tells Try.prog X4 M0 L2 noLS 12 gEncN := by
  intro zs hc r hg
  unfold gEncN at hg
  split at hg
  · cases hg
    exact ⟨12, ev12n 0 _⟩
  · cases hg

theorem tells13 : Tells Try.prog X4 M0 L2 (LS4 br) 13 gEnc := by
  intro zs hc r hg
  unfold gEnc at hg
  split at hg
  · rename_i es
    obtain ⟨h1, rfl⟩ := val_test hg
    exact ⟨12, (ev13 0 es _).trans (if_pos (by simpa using h1))⟩
  · cases hg

def gSameN : List PV → List Blk → Tr
  | [.nils, .lst 32 ys], [] => .ret (.bool (cmpL [] ys == 0)) []
  | [.lst 32 xs, .nils], [] => .ret (.bool (cmpL xs [] == 0)) []
  | [.nils, .nils], [] => .ret (.bool true) []
  | _, _ => .fail

theorem tells16n : Tells Try.prog X2 M0 L1 noLS 16 gSameN := by
  intro zs hc r hg
  unfold gSameN at hg
  split at hg
  · rename_i ys
    cases hg
    refine ⟨12, (ev16a 0 ys _).trans ?_⟩
    cases ys with
    | nil => rfl
    | cons y ys => exact (if_pos (decide_eq_true (by simp only [List.length_cons]; omega))).trans rfl
  · rename_i xs
    cases hg
    refine ⟨12, (ev16b 0 xs _).trans ?_⟩
    cases xs with
    | nil => rfl
    | cons y ys => exact (if_pos (decide_eq_true (by simp only [List.length_cons]; omega))).trans ((if_pos (decide_eq_true (by simp only [List.length_cons]; omega))).trans rfl)
  · cases hg
    exact ⟨12, ev16c 0 _⟩
  · cases hg

def gSameA : List PV → List Blk → Tr
  | [.lst 32 xs, .lst 32 ys], [] => .test (decide (xs.length < 4611686018427387904)) (.ret (.bool (cmpL xs ys == 0)) []) .fail
  | [.nils, .lst 32 ys], [] => .ret (.bool (cmpL [] ys == 0)) []
  | [.lst 32 xs, .nils], [] => .ret (.bool (cmpL xs [] == 0)) []
  | [.nils, .nils], [] => .ret (.bool true) []
  | _, _ => .fail

theorem eok12 : EOK Try.prog 12 gEncA := EOK.or (eok mixed named x4 ls4_ok tells12) (eok mixed named x4 (noLS_ok _ _ M0 L2) tells12n) fun xs hc r h => by
  unfold gEncA at h
  split at h
  · exact .inl h
  · exact .inr h
  · cases h

theorem eok16 : EOK Try.prog 16 gSameA := EOK.or (eok mixed named x2 ls2_ok tells16) (eok mixed named x2 (noLS_ok _ _ M0 L1) tells16n) fun xs hc r h => by
  unfold gSameA at h
  split at h
  · exact .inl h
  · exact .inr h
  · exact .inr h
  · exact .inr h
  · cases h

abbrev X5 : Ext := extT [(12, gEncA), (13, gEnc), (16, gSameA)] X4

theorem x5 : XOK Try.prog X5 := by
  refine xokT x4 ?_
  simp only [List.forall_mem_cons]
  exact ⟨eok12, eok mixed named x4 ls4_ok tells13, eok16, fun _ h => by cases h⟩

end Go.Proofs.Ytnnogckknlgeiaa
end

section
/- Equations: what the machine prints. -/
set_option linter.unusedVariables false
namespace Go.Proofs.Ytnnogckknlgeiaa
open Go.Pu


set_option maxRecDepth 100000 in
theorem ev4 {R : Type} (n : Nat) (xs ys : List (List PV)) (k : PV × Heap → Option R) :
  callK br Try.prog X5 M0 L2 (fun _ _ _ => none) (n+12) 4 [.lst 32 xs, .lst 32 ys] [] k =
  br (decide (List.length xs < 4611686018427387904))
  (br (!shortL xs) (k (PV.bool true, []))
    (br (decide (List.length ys < 4611686018427387904))
      (br (!shortL ys) (k (PV.bool true, []))
        (br (decide (List.length xs < 4611686018427387904))
          (br (!mayL xs) (k (PV.bool true, []))
            (br (decide (List.length ys < 4611686018427387904))
              (br (!mayL ys) (k (PV.bool true, []))
                (br (decide (List.length xs ≤ 1000000))
                  (br (decide (List.length ys ≤ 1000000))
                    (br (decide (List.length xs < 4611686018427387904))
                      (br
                        (Op.bytesLess (ByteArray.toList (bl (encL xs))) (ByteArray.toList (bl (encL ys))) ==
                          decide (cmpL xs ys < 0))
                        (br ((ByteArray.toList (bl (encL xs)) == ByteArray.toList (bl (encL ys))) == (cmpL xs ys == 0))
                          (br (decide (List.length ys < 4611686018427387904))
                            (k (PV.bool (cmpL ys xs == IntKind.wrap IntKind.i64 (0 - cmpL xs ys)), [])) none)
                          (k (PV.bool false, [])))
                        (k (PV.bool false, [])))
                      none)
                    none)
                  none))
              none))
          none))
      none))
  none := by
  rw [← callF_eq]; kernel_rfl

end Go.Proofs.Ytnnogckknlgeiaa
end

section
/- Bytes of values, and of lists of values, compare as these do. -/
set_option linter.unusedVariables false
namespace Go.Proofs.Ytnnogckknlgeiaa
open Go.Pu

/-- digits to the base 256, the greatest first -/
def dig : Nat → Int → List UInt8
  | 0, _ => []
  | n + 1, x => u8 (x / 256 ^ n) :: dig n x

theorem num8_dig (w : Int) : num8 w = dig 8 (N64 w) := by
  simp [num8, dig]

theorem u8_lt {x y : Int} : u8 x < u8 y ↔ x % 256 < y % 256 := by
  rw [UInt8.lt_iff_toNat_lt]
  have h1 := u8_nat x
  have h2 := u8_nat y
  omega

theorem u8_eq {x y : Int} : u8 x = u8 y ↔ x % 256 = y % 256 := by
  rw [← UInt8.toNat_inj]
  have h1 := u8_nat x
  have h2 := u8_nat y
  omega

theorem cb_cons (a b : UInt8) (xs ys : List UInt8) : Lib.compareBytes (a :: xs) (b :: ys) = if a < b then -1 else if b < a then 1 else Lib.compareBytes xs ys := rfl

theorem cb_same (a : UInt8) (xs ys : List UInt8) : Lib.compareBytes (a :: xs) (a :: ys) = Lib.compareBytes xs ys := by
  rw [cb_cons, if_neg (UInt8.lt_irrefl a), if_neg (UInt8.lt_irrefl a)]

theorem cmpI_lt {x y : Int} (h : x < y) : cmpI x y = -1 := by simp [cmpI, h]
theorem cmpI_gt {x y : Int} (h : y < x) : cmpI x y = 1 := by
  have : ¬ x < y := by omega
  simp [cmpI, this, h]

theorem dig_cmp (A B : List UInt8) : ∀ (n : Nat) (x y : Int), 0 ≤ x → 0 ≤ y → x / 256 ^ n = y / 256 ^ n → Lib.compareBytes (dig n x ++ A) (dig n y ++ B) = if cmpI x y = 0 then Lib.compareBytes A B else cmpI x y
  | 0, x, y, _, _, h => by
    simp only [Int.pow_zero, Int.ediv_one] at h
    subst h
    simp [dig, cmpI]
  | n + 1, x, y, hx, hy, h => by
    have hp : (0 : Int) < 256 ^ n := Int.pow_pos (by decide)
    have e : ∀ z : Int, z / 256 ^ (n + 1) = z / 256 ^ n / 256 := fun z => by
      rw [Int.pow_succ, Int.ediv_ediv_of_nonneg (Int.le_of_lt hp)]
    rw [e, e] at h
    have mono : ∀ a b : Int, a ≤ b → a / 256 ^ n ≤ b / 256 ^ n := fun a b hab => Int.ediv_le_ediv hp hab
    simp only [dig, List.cons_append]
    rw [cb_cons]
    split
    · rename_i h1
      rw [u8_lt] at h1
      have h2 : x < y := by
        rcases Int.lt_or_le x y with g | g
        · exact g
        · have := mono y x g; omega
      rw [cmpI_lt h2]; rfl
    · rename_i h1
      rw [u8_lt] at h1
      split
      · rename_i h2
        rw [u8_lt] at h2
        have h3 : y < x := by
          rcases Int.lt_or_le y x with g | g
          · exact g
          · have := mono x y g; omega
        rw [cmpI_gt h3]; rfl
      · rename_i h2
        rw [u8_lt] at h2
        exact dig_cmp A B n x y hx hy (by omega)

theorem esc_cmp (A B : List UInt8) : ∀ s t : List UInt8, Lib.compareBytes (escB s ++ [0, 1] ++ A) (escB t ++ [0, 1] ++ B) = if Lib.compareBytes s t = 0 then Lib.compareBytes A B else Lib.compareBytes s t
  | [], [] => by simp [escB, cb_same, Lib.compareBytes]
  | [], b :: t => by
    by_cases hb : b = 0
    · subst hb
      simp only [escB, if_true, List.nil_append, List.cons_append, cb_same]
      rw [cb_cons, if_pos (by decide)]
      simp [Lib.compareBytes]
    · simp only [escB, if_neg hb, List.nil_append, List.cons_append]
      rw [cb_cons, if_pos (UInt8.pos_iff_ne_zero.2 hb)]
      simp [Lib.compareBytes]
  | a :: s, [] => by
    by_cases hb : a = 0
    · subst hb
      simp only [escB, if_true, List.nil_append, List.cons_append, cb_same]
      rw [cb_cons, if_neg (by decide), if_pos (by decide)]
      simp [Lib.compareBytes]
    · simp only [escB, if_neg hb, List.nil_append, List.cons_append]
      rw [cb_cons, if_neg (by simp), if_pos (UInt8.pos_iff_ne_zero.2 hb)]
      simp [Lib.compareBytes]
  | a :: s, b :: t => by
    have ih := esc_cmp A B s t
    by_cases hab : a = b
    · subst hab
      rw [cb_same, ← ih]
      simp only [escB]
      split
      · simp only [List.cons_append, cb_same]
      · simp only [List.cons_append, cb_same]
    · rw [cb_cons]
      have tri : a < b ∨ b < a := by
        rcases UInt8.lt_or_lt_of_ne hab with h | h
        · exact .inl h
        · exact .inr h
      rcases tri with h | h
      · rw [if_pos h]
        have hb : b ≠ 0 := UInt8.pos_iff_ne_zero.1 (UInt8.lt_of_le_of_lt (UInt8.zero_le) h)
        simp only [escB, if_neg hb]
        split
        · rename_i ha
          subst ha
          simp only [List.cons_append]
          rw [cb_cons, if_pos (UInt8.pos_iff_ne_zero.2 hb)]; rfl
        · simp only [List.cons_append]
          rw [cb_cons, if_pos h]; rfl
      · have h' : ¬ a < b := fun g => UInt8.lt_irrefl _ (UInt8.lt_trans h g)
        rw [if_neg h', if_pos h]
        have ha : a ≠ 0 := UInt8.pos_iff_ne_zero.1 (UInt8.lt_of_le_of_lt (UInt8.zero_le) h)
        simp only [escB, if_neg ha]
        split
        · rename_i hb
          subst hb
          simp only [List.cons_append]
          rw [cb_cons, if_neg (by simp), if_pos (UInt8.pos_iff_ne_zero.2 ha)]; rfl
        · simp only [List.cons_append]
          rw [cb_cons, if_neg h', if_pos h]; rfl

/-- a list of values, laid out, that may be -/
def okL (es : List (List PV)) : Prop := ∀ e ∈ es, isV e ∧ mayE e = true

theorem cmpI_self (a : Int) : cmpI a a = 0 := cmpI_zero.2 rfl

theorem cmpI_pm (a b : Int) : cmpI a b = 0 ∨ cmpI a b = 1 ∨ cmpI a b = -1 := by
  unfold cmpI
  split
  · simp
  · split <;> simp

theorem wf64 {w : Int} (h : (Lit.int .i64 w).wf = true) : -9223372036854775808 ≤ w ∧ w < 9223372036854775808 := by
  simp only [Lit.wf, IntKind.min, IntKind.max, IntKind.bits, IntKind.signed, Bool.and_eq_true, decide_eq_true_eq] at h
  simp at h
  omega

theorem oneE_cmp {e f : List PV} (he : isV e) (me : mayE e = true) (hf : isV f) (mf : mayE f = true) (A B : List UInt8) :
    Lib.compareBytes (oneE e ++ A) (oneE f ++ B) = if cmpE e f = 0 then Lib.compareBytes A B else cmpE e f := by
  obtain ⟨v, w, s, rfl, -, hw, -⟩ := he
  obtain ⟨v', w', s', rfl, -, hw', -⟩ := hf
  have me : mayV v w s = true := me
  have mf : mayV v' w' s' = true := mf
  have hE : oneE [.int .i64 v, .int .i64 w, .str s] = oneB v w s.data.toList := rfl
  have hF : oneE [.int .i64 v', .int .i64 w', .str s'] = oneB v' w' s'.data.toList := rfl
  have hC : cmpE [.int .i64 v, .int .i64 w, .str s] [.int .i64 v', .int .i64 w', .str s'] = cmpV v w s v' w' s' := rfl
  rw [hE, hF, hC]
  have hv : 0 ≤ v ∧ v ≤ 3 := by rcases may_cases me with ⟨h, _⟩ | ⟨h, _⟩ | ⟨h, _⟩ | ⟨h, _⟩ <;> omega
  have hv' : 0 ≤ v' ∧ v' ≤ 3 := by rcases may_cases mf with ⟨h, _⟩ | ⟨h, _⟩ | ⟨h, _⟩ | ⟨h, _⟩ <;> omega
  by_cases hvv : v = v'
  · subst hvv
    unfold cmpV
    rw [cmpI_self]
    simp only [ne_eq, not_true, if_false]
    unfold oneB
    simp only [List.cons_append]
    rw [cb_same]
    rcases may_cases me with ⟨rfl, rfl, hs⟩ | ⟨rfl, hw0, hs⟩ | ⟨rfl, hs⟩ | ⟨rfl, rfl, hs⟩
    · rcases may_cases mf with ⟨_, rfl, hs'⟩ | ⟨h, _⟩ | ⟨h, _⟩ | ⟨h, _⟩
      · rw [hs, hs', cmpI_self]; simp [Lib.compareBytes]
      all_goals cases h
    · rcases may_cases mf with ⟨h, _⟩ | ⟨_, hw0', hs'⟩ | ⟨h, _⟩ | ⟨h, _⟩
      · cases h
      · rw [hs, hs']
        have e0 : Lib.compareBytes [] [] = 0 := rfl
        rw [e0]
        simp only [if_true, List.cons_append, List.nil_append]
        rcases hw0 with rfl | rfl <;> rcases hw0' with rfl | rfl
        · rw [cb_same, cmpI_self]; rfl
        · rfl
        · rfl
        · rw [cb_same, cmpI_self]; rfl
      all_goals cases h
    · rcases may_cases mf with ⟨h, _⟩ | ⟨h, _⟩ | ⟨_, hs'⟩ | ⟨h, _⟩
      · cases h
      · cases h
      · rw [hs, hs']
        have e0 : Lib.compareBytes [] [] = 0 := rfl
        rw [e0]
        have g1 := wf64 hw
        have g2 := wf64 hw'
        have n1 : N64 w = w + 9223372036854775808 := by unfold N64; omega
        have n2 : N64 w' = w' + 9223372036854775808 := by unfold N64; omega
        have hd := dig_cmp A B 8 (N64 w) (N64 w') (N64_lo w) (N64_lo w') (by
          rw [Int.ediv_eq_zero_of_lt (N64_lo w) (by have := N64_hi w; omega), Int.ediv_eq_zero_of_lt (N64_lo w') (by have := N64_hi w'; omega)])
        have e1 : cmpI (N64 w) (N64 w') = cmpI w w' := by
          rw [n1, n2]; unfold cmpI
          split <;> split <;> first | rfl | omega | (split <;> first | rfl | omega)
        rw [e1, ← num8_dig, ← num8_dig] at hd
        simp only [show ¬ ((2 : Int) = 1) by decide, if_false, if_true]
        rw [hd]
        by_cases hc : cmpI w w' = 0
        · rw [hc]; simp
        · rw [if_neg hc, if_pos hc, if_neg hc]
      · cases h
    · rcases may_cases mf with ⟨h, _⟩ | ⟨h, _⟩ | ⟨h, _⟩ | ⟨_, rfl, hs'⟩
      · cases h
      · cases h
      · cases h
      · rw [cmpI_self]
        simp only [show ¬ ((3 : Int) = 1) by decide, show ¬ ((3 : Int) = 2) by decide, if_false, if_true, not_true]
        exact esc_cmp A B _ _
  · unfold oneB
    simp only [List.cons_append]
    rw [cb_cons]
    have hcv : cmpI v v' ≠ 0 := fun h => hvv (cmpI_zero.1 h)
    have e1 : cmpV v w s v' w' s' = cmpI v v' := by unfold cmpV; rw [if_pos hcv]
    rw [e1, if_neg hcv]
    split
    · rename_i h; rw [u8_lt] at h
      rw [cmpI_lt (by omega)]
    · rename_i h; rw [u8_lt] at h
      split
      · rename_i h2; rw [u8_lt] at h2
        rw [cmpI_gt (by omega)]
      · rename_i h2; rw [u8_lt] at h2
        omega

theorem oneE_ne (e : List PV) : ∃ b r, oneE e = b :: r := ⟨_, _, rfl⟩

theorem enc_cmp : ∀ {xs ys : List (List PV)}, okL xs → okL ys → Lib.compareBytes (encB xs) (encB ys) = cmpL xs ys
  | [], [], _, _ => rfl
  | [], y :: ys, _, _ => by
    obtain ⟨b, r, h⟩ := oneE_ne y
    simp [encB, h, cmpL, Lib.compareBytes]
  | x :: xs, [], _, _ => by
    obtain ⟨b, r, h⟩ := oneE_ne x
    simp [encB, h, cmpL, Lib.compareBytes]
  | x :: xs, y :: ys, hx, hy => by
    have h1 := hx x (by simp)
    have h2 := hy y (by simp)
    have ih := enc_cmp (xs := xs) (ys := ys) (fun e he => hx e (by simp [he])) (fun e he => hy e (by simp [he]))
    have := oneE_cmp h1.1 h1.2 h2.1 h2.2 (encB xs) (encB ys)
    simp only [encB, List.flatMap_cons] at this ih ⊢
    rw [this, ih]
    rfl

theorem cb_neg : ∀ a b : List UInt8, Lib.compareBytes b a = - Lib.compareBytes a b
  | [], [] => rfl
  | [], _ :: _ => rfl
  | _ :: _, [] => rfl
  | a :: xs, b :: ys => by
    rw [cb_cons, cb_cons]
    have ih := cb_neg xs ys
    by_cases h1 : a < b
    · have h2 : ¬ b < a := fun g => UInt8.lt_irrefl _ (UInt8.lt_trans h1 g)
      rw [if_neg h2, if_pos h1, if_pos h1]; rfl
    · by_cases h2 : b < a
      · rw [if_pos h2, if_neg h1, if_pos h2]
      · rw [if_neg h2, if_neg h1, if_neg h1, if_neg h2]; exact ih

theorem bl_toList (a : List UInt8) : (bl a).toList = a := by
  rw [ByteArray.toList_eq]; rfl

end Go.Proofs.Ytnnogckknlgeiaa
end
