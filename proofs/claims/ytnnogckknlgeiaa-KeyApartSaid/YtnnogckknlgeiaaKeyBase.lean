/- The Key program: what its functions tell, as equations of pure data: comparing. Each theorem names its conditions. -/
import Derived.Test.YtnnogckknlgeiaaPuThree
import Derived.Test.YtnnogckknlgeiaaRows
import Derived.Lib.Strings
import Derived.Lib.Slices
import Derived.Lib.Walk
import Derived.Lib.Bytealg
import Derived.KernelRfl
section
/- The Key program: what is true of it as a whole; strings.Compare. -/
namespace Go.Proofs.Ytnnogckknlgeiaa
open Go.Pu

set_option maxHeartbeats 1000000 in
set_option maxRecDepth 100000 in
theorem bytealg_CompareString (a b : ByteArray) (w : World) :
    Calls Try.prog 33 #[.string a, .string b] w fun e w' => e = .returned (.int .i64 (Lib.compareBytes a.data.toList b.data.toList)) ∧ w' = w := by
  go_enter Try.func33, Try.ntmps33
  go_wp2
  rw [run_callFunc_extern Try.func34 (by kernel_rfl) (by kernel_rfl) (by kernel_rfl) (e := Extern.BytealgCompare.compare) (by kernel_rfl), Lib.run_compareString]
  simp only [Result.andThen]
  rw [Oper.upon_value]
  go_wp2
  go_ret
  exact ⟨rfl, rfl⟩

set_option maxHeartbeats 1000000 in
theorem strings_Compare (a b : ByteArray) (w : World) :
    Calls Try.prog 31 #[.string a, .string b] w fun e w' => e = .returned (.int .i64 (Lib.compareBytes a.data.toList b.data.toList)) ∧ w' = w := by
  go_enter Try.func31, Try.ntmps31
  go_wp2_with (go_at_call 33; refine (bytealg_CompareString _ _ _).mono ?_; rintro e w' ⟨rfl, rfl⟩)
  go_ret
  exact ⟨rfl, rfl⟩

theorem mixed : Try.prog.follows .mixedOrders = true := by kernel_rfl

def namedB (P : Program) : Bool := P.funcs.toList.all fun fn => fn.body.isNone || fn.name != "runtime.NumGoroutine"

theorem named_of {P : Program} (h : namedB P = true) : Named P := by
  intro f fn hf hb hn
  have hm : fn ∈ P.funcs.toList := by
    have := Array.mem_of_getElem? hf
    simpa using this
  have := List.all_eq_true.1 h fn hm
  rw [Bool.or_eq_true] at this
  rcases this with h1 | h1
  · cases hh : fn.body <;> simp_all
  · rw [hn] at h1; simp at h1

set_option maxRecDepth 100000 in
theorem named : Named Try.prog := named_of (by kernel_rfl)

def X0 : Ext := fun f => if f = 31 then some fun | [.str a, .str b], [] => .ret (.int .i64 (Lib.compareBytes a.data.toList b.data.toList)) [] | _, _ => .fail else none

theorem x0 : XOK Try.prog X0 := by
  intro f g xs hc r hf hg
  unfold X0 at hf
  split at hf
  · rename_i hf31
    subst hf31
    cases hf
    refine ⟨⟨_, Try.func31, by kernel_rfl⟩, fun E vs hE hbk hI hL => ?_⟩
    dsimp only at hg
    split at hg
    · rename_i a b
      cases hg
      obtain ⟨hl, hr⟩ := hL
      match vs, hl, hr with
      | [u, v], _, hr =>
        have h0 := (hr 0 (by simp)).str_inv
        have h1 := (hr 1 (by simp)).str_inv
        simp at h0 h1
        subst h0
        subst h1
        refine (strings_Compare a b E.w).mono ?_
        rintro e w' ⟨rfl, rfl⟩
        exact ⟨_, E, rfl, rfl, hE, (Trans.refl E).toK (Nat.zero_le _), hI, .int _ _⟩
    · cases hg
  · cases hf

end Go.Proofs.Ytnnogckknlgeiaa
end

section
/- The Key program: small functions. -/
set_option linter.unusedVariables false
namespace Go.Proofs.Ytnnogckknlgeiaa
open Go.Pu

def L0 : FuncId → Nat → Option (List Nat) := fun _ _ => none
def M0 : FuncId → Bool := fun f => f == 22

theorem br_true {R : Type} (x y : Option R) : br true x y = x := rfl
theorem br_false {R : Type} (x y : Option R) : br false x y = y := rfl

def cmpI (a b : Int) : Int := if a < b then -1 else if a > b then 1 else 0

def gCmp : List PV → List Blk → Tr
  | [.int .i64 a, .int .i64 b], [] => .ret (.int .i64 (cmpI a b)) []
  | _, _ => .fail

set_option maxRecDepth 100000 in
theorem eq30 {R : Type} (n : Nat) (a b : Int) (k : PV × Heap → Option R) : callK br Try.prog X0 M0 L0 (fun _ _ _ => none) (n+2) 30 [.int .i64 a, .int .i64 b] [] k =
    br (a != a) (br (b != b) (k (PV.int IntKind.i64 0, [])) (k (PV.int IntKind.i64 (-1), [])))
      (br (b != b) (k (PV.int IntKind.i64 1, []))
        (br (decide (a < b)) (k (PV.int IntKind.i64 (-1), []))
          (br (decide (a > b)) (k (PV.int IntKind.i64 1, [])) (k (PV.int IntKind.i64 0, []))))) := by kernel_rfl

theorem tells30 : Tells Try.prog X0 M0 L0 noLS 30 gCmp := by
  intro xs hc r hg
  unfold gCmp at hg
  split at hg
  · rename_i a b
    cases hg
    refine ⟨2, (eq30 0 a b _).trans ?_⟩
    unfold cmpI
    by_cases h1 : a < b
    · simp [br, h1]
    · by_cases h2 : b < a
      · simp [br, h1, h2]
      · simp [br, h1, h2]
  · cases hg

/-- may a value be? -/
def mayV (a b : Int) (s : ByteArray) : Bool :=
  if a = 0 then b == 0 && s.toList == [] else if a = 1 then (b == 0 || b == 1) && s.toList == [] else if a = 2 then s.toList == [] else if a = 3 then b == 0 && decide ((s.size : Int) ≤ 1000) else false

def gMay : List PV → List Blk → Tr
  | [.agg [.int .i64 a, .int .i64 b, .str s]], [] => .ret (.bool (mayV a b s)) []
  | _, _ => .fail

set_option maxRecDepth 100000 in
theorem eq26 {R : Type} (n : Nat) (a b : Int) (s : ByteArray) (k : PV × Heap → Option R) : callK br Try.prog X0 M0 L0 (fun _ _ _ => none) (n+3) 26 [.agg [.int .i64 a, .int .i64 b, .str s]] [] k =
  br (a == 0)
  (br (s.toList == []) (br (decide (b ≥ 0)) (k (PV.bool (decide (b ≤ a)), [])) (k (PV.bool false, [])))
    (k (PV.bool false, [])))
  (br (a == 1)
    (br (s.toList == []) (br (decide (b ≥ 0)) (k (PV.bool (decide (b ≤ a)), [])) (k (PV.bool false, [])))
      (k (PV.bool false, [])))
    (br (a == 2) (k (PV.bool (s.toList == []), []))
      (br (a == 3) (br (b == 0) (k (PV.bool (decide ((s.size : Int) ≤ 1000)), [])) (k (PV.bool false, [])))
        (k (PV.bool false, []))))) := by kernel_rfl

set_option maxRecDepth 100000 in
theorem eq19 {R : Type} (n : Nat) (a b : Int) (s : ByteArray) (k : PV × Heap → Option R) : callK br Try.prog X0 M0 L0 (fun _ _ _ => none) (n+3) 19 [.agg [.int .i64 a, .int .i64 b, .str s]] [] k =
  br (a == 0) (k (PV.bool (a == 0 && (b == 0 && (s.toList == [] && true))), []))
  (br (a == 1)
    (br (b == 0) (k (PV.bool (s.toList == []), []))
      (br (b == 1) (k (PV.bool (s.toList == []), [])) (k (PV.bool false, []))))
    (br (a == 2) (k (PV.bool (s.toList == []), []))
      (br (a == 3) (br (b == 0) (k (PV.bool (decide ((s.size : Int) ≤ 1000)), [])) (k (PV.bool false, [])))
        (k (PV.bool false, []))))) := by kernel_rfl

theorem tells26 : Tells Try.prog X0 M0 L0 noLS 26 gMay := by
  intro xs hc r hg
  unfold gMay at hg
  split at hg
  · rename_i a b s
    cases hg
    refine ⟨3, (eq26 0 a b s _).trans ?_⟩
    have hb : ∀ c : Bool, c = true ∨ c = false := by intro c; cases c <;> simp
    unfold mayV
    by_cases h0 : a = 0
    · subst h0
      rcases hb (s.toList == []) with hs | hs <;> simp only [br, hs, beq_self_eq_true, if_true]
      · by_cases h1 : b ≥ 0
        · by_cases h2 : b ≤ 0
          · have : b = 0 := by omega
            subst this; simp
          · have : ¬ b = 0 := by omega
            simp [h1, h2, this]
        · have : ¬ b = 0 := by omega
          simp [h1, this]
      · simp
    · by_cases h1 : a = 1
      · subst h1
        rcases hb (s.toList == []) with hs | hs <;> simp only [br, hs]
        · by_cases h2 : b ≥ 0
          · by_cases h3 : b ≤ 1
            · have : b = 0 ∨ b = 1 := by omega
              rcases this with rfl | rfl <;> simp
            · have h4 : ¬ b = 0 := by omega
              have h5 : ¬ b = 1 := by omega
              simp [h2, h3, h4, h5]
          · have h4 : ¬ b = 0 := by omega
            have h5 : ¬ b = 1 := by omega
            simp [h2, h4, h5]
        · simp
      · by_cases h2 : a = 2
        · subst h2; simp [br]
        · by_cases h3 : a = 3
          · subst h3
            by_cases h4 : b = 0 <;> simp [br, h4]
          · simp [br, h0, h1, h2, h3]
  · cases hg

theorem tells19 : Tells Try.prog X0 M0 L0 noLS 19 gMay := by
  intro xs hc r hg
  unfold gMay at hg
  split at hg
  · rename_i a b s
    cases hg
    refine ⟨3, (eq19 0 a b s _).trans ?_⟩
    unfold mayV
    by_cases h0 : a = 0
    · subst h0; simp [br]
    · by_cases h1 : a = 1
      · subst h1
        by_cases h4 : b = 0
        · simp [br, h4]
        · by_cases h5 : b = 1 <;> simp [br, h4, h5]
      · by_cases h2 : a = 2
        · subst h2; simp [br]
        · by_cases h3 : a = 3
          · subst h3
            by_cases h4 : b = 0 <;> simp [br, h4]
          · simp [br, h0, h1, h2, h3]
  · cases hg

end Go.Proofs.Ytnnogckknlgeiaa
end

section
/- The Key program: comparing. -/
set_option linter.unusedVariables false
namespace Go.Proofs.Ytnnogckknlgeiaa
open Go.Pu

/-- what is told so far -/
def X1 : Ext := fun f => if f = 30 then some gCmp else X0 f

theorem x1 : XOK Try.prog X1 := XOK.more mixed named x0 (noLS_ok _ _ M0 L0) fun f g h => by
  unfold X1 at h
  split at h
  · rename_i hf
    subst hf
    cases h
    exact .inr tells30
  · exact .inl h

/-- how two values compare -/
def cmpV (a b : Int) (s : ByteArray) (a' b' : Int) (s' : ByteArray) : Int :=
  if cmpI a a' ≠ 0 then cmpI a a' else if cmpI b b' ≠ 0 then cmpI b b' else Lib.compareBytes s.data.toList s'.data.toList

def gCmpV : List PV → List Blk → Tr
  | [.agg [.int .i64 a, .int .i64 b, .str s], .agg [.int .i64 a', .int .i64 b', .str s']], [] => .ret (.int .i64 (cmpV a b s a' b' s')) []
  | _, _ => .fail

set_option maxRecDepth 100000 in
theorem eq24 {R : Type} (n : Nat) (a b : Int) (s : ByteArray) (a' b' : Int) (s' : ByteArray) (k : PV × Heap → Option R) : callK br Try.prog X1 M0 L0 (fun _ _ _ => none) (n+8) 24 [.agg [.int .i64 a, .int .i64 b, .str s], .agg [.int .i64 a', .int .i64 b', .str s']] [] k =
  br (cmpI a a' != 0) (k (PV.int IntKind.i64 (cmpI a a'), []))
  (br (cmpI b b' != 0) (k (PV.int IntKind.i64 (cmpI b b'), []))
    (br (Lib.compareBytes s.data.toList s'.data.toList != 0)
      (k (PV.int IntKind.i64 (Lib.compareBytes s.data.toList s'.data.toList), []))
      (k (PV.int IntKind.i64 0, [])))) := by kernel_rfl

theorem tells24 : Tells Try.prog X1 M0 L0 noLS 24 gCmpV := by
  intro xs hc r hg
  unfold gCmpV at hg
  split at hg
  · rename_i a b s a' b' s'
    cases hg
    refine ⟨8, (eq24 0 a b s a' b' s' _).trans ?_⟩
    unfold cmpV
    by_cases h1 : cmpI a a' = 0
    · by_cases h2 : cmpI b b' = 0
      · by_cases h3 : Lib.compareBytes s.data.toList s'.data.toList = 0 <;> simp [br, h1, h2, h3]
      · simp [br, h1, h2]
    · simp [br, h1]
  · cases hg

end Go.Proofs.Ytnnogckknlgeiaa
end

section
/- The Key program: comparing, as the document says. -/
set_option linter.unusedVariables false
namespace Go.Proofs.Ytnnogckknlgeiaa
open Go.Pu

theorem cmpI_zero {a b : Int} : cmpI a b = 0 ↔ a = b := by
  unfold cmpI
  split
  · omega
  · split <;> omega

theorem compareBytes_zero : ∀ {a b : List UInt8}, Lib.compareBytes a b = 0 ↔ a = b
  | [], [] => by simp [Lib.compareBytes]
  | [], _ :: _ => by simp [Lib.compareBytes]
  | _ :: _, [] => by simp [Lib.compareBytes]
  | a :: xs, b :: ys => by
    unfold Lib.compareBytes
    split
    · rename_i h
      have : a ≠ b := fun e => by subst e; exact absurd h (UInt8.lt_irrefl a)
      simp [this]
    · split
      · rename_i h
        have : a ≠ b := fun e => by subst e; exact absurd h (UInt8.lt_irrefl a)
        simp [this]
      · rename_i h1 h2
        have : a = b := UInt8.le_antisymm (UInt8.not_lt.1 h2) (UInt8.not_lt.1 h1)
        subst this
        simp [compareBytes_zero]

set_option maxRecDepth 100000 in
theorem eq25 {R : Type} (n : Nat) (a b : Int) (s : ByteArray) (a' b' : Int) (s' : ByteArray) (k : PV × Heap → Option R) : callK br Try.prog X1 M0 L0 (fun _ _ _ => none) (n+3) 25 [.agg [.int .i64 a, .int .i64 b, .str s], .agg [.int .i64 a', .int .i64 b', .str s']] [] k =
  br (a != a') (br (decide (a < a')) (k (PV.int IntKind.i64 (-1), [])) (k (PV.int IntKind.i64 1, [])))
  (br (b != b') (br (decide (b < b')) (k (PV.int IntKind.i64 (-1), [])) (k (PV.int IntKind.i64 1, [])))
    (br (Op.bytesLess s.toList s'.toList) (k (PV.int IntKind.i64 (-1), []))
      (br (!(Op.bytesLess s.toList s'.toList || s.toList == s'.toList)) (k (PV.int IntKind.i64 1, []))
        (k (PV.int IntKind.i64 0, []))))) := by kernel_rfl

theorem compareBytes_less : ∀ (a b : List UInt8), Lib.compareBytes a b = if Op.bytesLess a b = true then -1 else if a = b then 0 else 1
  | [], [] => by simp [Lib.compareBytes, Op.bytesLess]
  | [], _ :: _ => by simp [Lib.compareBytes, Op.bytesLess]
  | _ :: _, [] => by simp [Lib.compareBytes, Op.bytesLess]
  | a :: xs, b :: ys => by
    unfold Lib.compareBytes Op.bytesLess
    by_cases h1 : a < b
    · simp [h1]
    · by_cases h2 : b < a
      · have : a ≠ b := fun e => by subst e; exact absurd h2 (UInt8.lt_irrefl a)
        simp [h1, h2, this]
      · have : a = b := UInt8.le_antisymm (UInt8.not_lt.1 h2) (UInt8.not_lt.1 h1)
        subst this
        simp [h1, compareBytes_less xs ys]

theorem tells25 : Tells Try.prog X1 M0 L0 noLS 25 gCmpV := by
  intro xs hc r hg
  unfold gCmpV at hg
  split at hg
  · rename_i a b s a' b' s'
    cases hg
    refine ⟨3, (eq25 0 a b s a' b' s' _).trans ?_⟩
    have h0 : ∀ x y : Int, cmpI x y = if x = y then 0 else if x < y then -1 else 1 := by
      intro x y; unfold cmpI; split <;> split <;> (try split) <;> omega
    unfold cmpV
    rw [h0 a a', h0 b b', compareBytes_less, ByteArray.toList_eq, ByteArray.toList_eq]
    by_cases h1 : a = a'
    · by_cases h2 : b = b'
      · by_cases h3 : Op.bytesLess s.data.toList s'.data.toList = true
        · simp [br, h1, h2, h3]
        · have h3' : Op.bytesLess s.data.toList s'.data.toList = false := by simpa using h3
          rw [h3']
          by_cases h4 : s.data = s'.data
          · simp [br, h1, h2, h4]
          · simp [br, h1, h2, h4]
      · by_cases h3 : b < b' <;> simp [br, h1, h2, h3]
    · by_cases h3 : a < a' <;> simp [br, h1, h3]
  · cases hg

end Go.Proofs.Ytnnogckknlgeiaa
end

section
/- The Key program: lists of values; the table of what is told. -/
set_option linter.unusedVariables false
namespace Go.Proofs.Ytnnogckknlgeiaa
open Go.Pu

def L1 : FuncId → Nat → Option (List Nat) := liveT [(8, 2, [0, 2, 3]), (10, 3, [2, 3, 4, 5]), (11, 3, [0, 2, 3, 4, 5]), (12, 3, [2, 3, 6, 7, 8]), (13, 3, [0, 3, 4]), (15, 2, [0, 1, 4, 5]), (17, 2, [0, 2, 3]), (18, 8, [0, 2, 3, 4, 20]), (20, 15, [0, 1, 4, 7]), (20, 9, [0, 1, 4, 7, 8, 9]), (21, 9, [3, 4, 5, 6]), (21, 15, [1, 3, 7]), (22, 8, [0, 5, 31]), (22, 14, [0, 3, 48, 49]), (23, 2, [0, 1, 2, 6, 11, 12, 13]), (28, 2, [0, 3]), (29, 3, [2, 3, 6, 7, 8])]

def gFixed : List PV → List Blk → Tr
  | [], [] => .ret (.bool true) []
  | _, _ => .fail

end Go.Proofs.Ytnnogckknlgeiaa
end

section
/- Equations: what the machine prints. -/
set_option linter.unusedVariables false
namespace Go.Proofs.Ytnnogckknlgeiaa
open Go.Pu

abbrev X2 : Ext := extT [(26, gMay), (19, gMay), (24, gCmpV), (25, gCmpV)] X0


set_option maxRecDepth 100000 in
theorem rd8 {R : Type} (n : Nat) (es : List (List PV)) (i : Int) (k : Ex → List PV → Heap → Option R) :
  runK br Try.prog (callK br Try.prog X2 M0 L1 (fun _ _ _ => none) (n+1)) M0 (fun _ => none) n 0 (L1 8) (bodyOf Try.prog 8 2) (pl 20 [(0, .lst 32 es), (2, .bool false), (3, .int .i64 i)]) [] (fun e ts h => (cleanX 0 (L1 8) 2 e ts h).bind fun c => k e c.1 c.2) =
  br (decide (i < (↑(List.length es) : Int)))
  (br (decide (0 ≤ i ∧ i < (↑(List.length es) : Int)))
    (br (decide ((↑(ByteArray.size (PV.toS (List.getD (List.getD es (Int.toNat i) []) 2 PV.top))) : Int) > 1000))
      (k Ex.ret (pl 20 [(0, PV.lst 32 es), (2, PV.bool false), (3, PV.int IntKind.i64 i)]) [])
      (k Ex.normal
        (pl 20 [(0, PV.lst 32 es), (2, PV.bool false), (3, PV.int IntKind.i64 (IntKind.wrap IntKind.i64 (i + 1)))]) []))
    none)
  (k (Ex.exit 0) (pl 20 [(0, PV.lst 32 es), (2, PV.bool false), (3, PV.int IntKind.i64 i)]) []) := by
  rw [← callF_eq, ← runF_eq]; kernel_rfl

set_option maxRecDepth 100000 in
theorem rd23 {R : Type} (n : Nat) (x0 xs ys : List (List PV)) (m i : Int) (k : Ex → List PV → Heap → Option R) :
  runK br Try.prog (callK br Try.prog X2 M0 L1 (fun _ _ _ => none) (n+1)) M0 (fun _ => none) n 0 (L1 23) (bodyOf Try.prog 23 2) (pl 39 [(0, .lst 32 x0), (1, .lst 32 ys), (2, .fn 24 []), (6, .int .i64 0), (11, .lst 32 xs), (12, .int .i64 m), (13, .int .i64 i)]) [] (fun e ts h => (cleanX 0 (L1 23) 2 e ts h).bind fun c => k e c.1 c.2) =
  br (decide (i < m))
  (br (decide (0 ≤ i ∧ i < (↑(List.length xs) : Int)))
    (br (decide (i ≥ (↑(List.length ys) : Int)))
      (k Ex.ret
        (pl 39
          [(0, PV.lst 32 x0), (1, PV.lst 32 ys), (2, PV.fn 24 []), (6, PV.int IntKind.i64 1), (11, PV.lst 32 xs),
            (12, PV.int IntKind.i64 m), (13, PV.int IntKind.i64 i)])
        [])
      (br (decide (0 ≤ i ∧ i < (↑(List.length ys) : Int)))
        (br
          (cmpV (PV.toI (List.getD (List.getD xs (Int.toNat i) []) 0 PV.top))
              (PV.toI (List.getD (List.getD xs (Int.toNat i) []) 1 PV.top))
              (PV.toS (List.getD (List.getD xs (Int.toNat i) []) 2 PV.top))
              (PV.toI (List.getD (List.getD ys (Int.toNat i) []) 0 PV.top))
              (PV.toI (List.getD (List.getD ys (Int.toNat i) []) 1 PV.top))
              (PV.toS (List.getD (List.getD ys (Int.toNat i) []) 2 PV.top)) !=
            0)
          (k Ex.ret
            (pl 39
              [(0, PV.lst 32 x0), (1, PV.lst 32 ys), (2, PV.fn 24 []),
                (6,
                  PV.int IntKind.i64
                    (cmpV (PV.toI (List.getD (List.getD xs (Int.toNat i) []) 0 PV.top))
                      (PV.toI (List.getD (List.getD xs (Int.toNat i) []) 1 PV.top))
                      (PV.toS (List.getD (List.getD xs (Int.toNat i) []) 2 PV.top))
                      (PV.toI (List.getD (List.getD ys (Int.toNat i) []) 0 PV.top))
                      (PV.toI (List.getD (List.getD ys (Int.toNat i) []) 1 PV.top))
                      (PV.toS (List.getD (List.getD ys (Int.toNat i) []) 2 PV.top)))),
                (11, PV.lst 32 xs), (12, PV.int IntKind.i64 m), (13, PV.int IntKind.i64 i)])
            [])
          (k Ex.normal
            (pl 39
              [(0, PV.lst 32 x0), (1, PV.lst 32 ys), (2, PV.fn 24 []), (6, PV.int IntKind.i64 0), (11, PV.lst 32 xs),
                (12, PV.int IntKind.i64 m), (13, PV.int IntKind.i64 (IntKind.wrap IntKind.i64 (i + 1)))])
            []))
        none))
    none)
  (k (Ex.exit 0)
    (pl 39
      [(0, PV.lst 32 x0), (1, PV.lst 32 ys), (2, PV.fn 24 []), (6, PV.int IntKind.i64 0), (11, PV.lst 32 xs),
        (12, PV.int IntKind.i64 m), (13, PV.int IntKind.i64 i)])
    []) := by
  rw [← callF_eq, ← runF_eq]; kernel_rfl

set_option maxRecDepth 100000 in
theorem rd15 {R : Type} (n : Nat) (xs ys : List (List PV)) (i : Int) (k : Ex → List PV → Heap → Option R) :
  runK br Try.prog (callK br Try.prog X2 M0 L1 (fun _ _ _ => none) (n+1)) M0 (fun _ => none) n 0 (L1 15) (bodyOf Try.prog 15 2) (pl 41 [(0, .lst 32 xs), (1, .lst 32 ys), (4, .int .i64 0), (5, .int .i64 i)]) [] (fun e ts h => (cleanX 0 (L1 15) 2 e ts h).bind fun c => k e c.1 c.2) =
  br (decide (i < (↑(List.length xs) : Int)))
  (br (decide (i < (↑(List.length ys) : Int)))
    (br (decide (0 ≤ i ∧ i < (↑(List.length xs) : Int)))
      (br (decide (0 ≤ i ∧ i < (↑(List.length ys) : Int)))
        (br
          (cmpV (PV.toI (List.getD (List.getD xs (Int.toNat i) []) 0 PV.top))
              (PV.toI (List.getD (List.getD xs (Int.toNat i) []) 1 PV.top))
              (PV.toS (List.getD (List.getD xs (Int.toNat i) []) 2 PV.top))
              (PV.toI (List.getD (List.getD ys (Int.toNat i) []) 0 PV.top))
              (PV.toI (List.getD (List.getD ys (Int.toNat i) []) 1 PV.top))
              (PV.toS (List.getD (List.getD ys (Int.toNat i) []) 2 PV.top)) !=
            0)
          (k Ex.ret
            (pl 41
              [(0, PV.lst 32 xs), (1, PV.lst 32 ys),
                (4,
                  PV.int IntKind.i64
                    (cmpV (PV.toI (List.getD (List.getD xs (Int.toNat i) []) 0 PV.top))
                      (PV.toI (List.getD (List.getD xs (Int.toNat i) []) 1 PV.top))
                      (PV.toS (List.getD (List.getD xs (Int.toNat i) []) 2 PV.top))
                      (PV.toI (List.getD (List.getD ys (Int.toNat i) []) 0 PV.top))
                      (PV.toI (List.getD (List.getD ys (Int.toNat i) []) 1 PV.top))
                      (PV.toS (List.getD (List.getD ys (Int.toNat i) []) 2 PV.top)))),
                (5, PV.int IntKind.i64 i)])
            [])
          (k Ex.normal
            (pl 41
              [(0, PV.lst 32 xs), (1, PV.lst 32 ys), (4, PV.int IntKind.i64 0),
                (5, PV.int IntKind.i64 (IntKind.wrap IntKind.i64 (i + 1)))])
            []))
        none)
      none)
    (k (Ex.exit 0) (pl 41 [(0, PV.lst 32 xs), (1, PV.lst 32 ys), (4, PV.int IntKind.i64 0), (5, PV.int IntKind.i64 i)])
      []))
  (k (Ex.exit 0) (pl 41 [(0, PV.lst 32 xs), (1, PV.lst 32 ys), (4, PV.int IntKind.i64 0), (5, PV.int IntKind.i64 i)])
    []) := by
  rw [← callF_eq, ← runF_eq]; kernel_rfl

set_option maxRecDepth 100000 in
theorem rd17 {R : Type} (n : Nat) (es : List (List PV)) (i : Int) (k : Ex → List PV → Heap → Option R) :
  runK br Try.prog (callK br Try.prog X2 M0 L1 (fun _ _ _ => none) (n+1)) M0 (fun _ => none) n 0 (L1 17) (bodyOf Try.prog 17 2) (pl 16 [(0, .lst 32 es), (2, .bool false), (3, .int .i64 i)]) [] (fun e ts h => (cleanX 0 (L1 17) 2 e ts h).bind fun c => k e c.1 c.2) =
  br (decide (i < (↑(List.length es) : Int)))
  (br (decide (0 ≤ i ∧ i < (↑(List.length es) : Int)))
    (br
      (!mayV (PV.toI (List.getD (List.getD es (Int.toNat i) []) 0 PV.top))
          (PV.toI (List.getD (List.getD es (Int.toNat i) []) 1 PV.top))
          (PV.toS (List.getD (List.getD es (Int.toNat i) []) 2 PV.top)))
      (k Ex.ret (pl 16 [(0, PV.lst 32 es), (2, PV.bool false), (3, PV.int IntKind.i64 i)]) [])
      (k Ex.normal
        (pl 16 [(0, PV.lst 32 es), (2, PV.bool false), (3, PV.int IntKind.i64 (IntKind.wrap IntKind.i64 (i + 1)))]) []))
    none)
  (k (Ex.exit 0) (pl 16 [(0, PV.lst 32 es), (2, PV.bool false), (3, PV.int IntKind.i64 i)]) []) := by
  rw [← callF_eq, ← runF_eq]; kernel_rfl

end Go.Proofs.Ytnnogckknlgeiaa
end

section
/- The Key program: loops that look for the first place where something is so. -/
set_option linter.unusedVariables false
namespace Go.Proofs.Ytnnogckknlgeiaa
open Go.Pu

theorem rids : ridsOK Try.prog = true := by kernel_rfl

theorem callK0 {R : Type} {P : Program} {X : Ext} {M : FuncId → Bool} {L : FuncId → Nat → Option (List Nat)} (n : Nat) : CallKIn (R := R) (InS P X M L) (callK br P X M L (fun _ _ _ => none) n) :=
  callK_ev (fun _ _ _ _ _ _ a _ g hg => by cases hg) n

theorem br_test {R : Type} {b : Bool} {x : Option R} {r : R} (h : br b x none = some r) : b = true ∧ x = some r := by
  unfold br at h
  split at h
  · rename_i hb; exact ⟨hb, h⟩
  · cases h

/-- an element's text is too long -/
def isLong (es : List (List PV)) (j : Nat) : Bool := decide ((((es.getD j []).getD 2 .top).toS.size : Int) > 1000)

abbrev BT (R : Type) := Bool → Option R → Option R → Option R

def g8 {R : Type} (B : BT R) : Smy R := fun ts h k =>
  match h, ts.length, ts.getD 0 .top, ts.getD 2 .top, ts.getD 3 .top with
  | [], 20, .lst 32 es, .bool false, .int .i64 0 =>
    B (decide (es.length < 4611686018427387904))
      (B (decide (fst (isLong es) es.length < es.length)) (k .ret (pl 20 [(0, .lst 32 es), (2, .bool false), (3, .int .i64 (fst (isLong es) es.length : Nat))]) [])
        (k (.exit 0) (pl 20 [(0, .lst 32 es), (2, .bool false), (3, .int .i64 (es.length : Nat))]) [])) none
  | _, _, _, _, _ => none

theorem loop8 {R : Type} : LoopTells Try.prog X2 M0 L1 0 (L1 8) (bodyOf Try.prog 8 2) (g8 (R := R) br) := by
  refine search_of (n := 0) (callK0 1) lsok_none (fun es : List (List PV) => es.length < 4611686018427387904) (fun es => es.length) isLong
    (fun es i => (pl 20 [(0, .lst 32 es), (2, .bool false), (3, .int .i64 (i : Nat))], []))
    (fun es i => (.ret, pl 20 [(0, .lst 32 es), (2, .bool false), (3, .int .i64 (i : Nat))], []))
    (fun es => (.exit 0, pl 20 [(0, .lst 32 es), (2, .bool false), (3, .int .i64 (es.length : Nat))], [])) (q := 2) (by kernel_rfl) ?_ ?_ ?_ ?_
  · intro ts h c k r hc hk
    unfold g8 at hk
    split at hk
    · rename_i es h0 h1 h2 h3 h4
      obtain ⟨hl, hk⟩ := br_test hk
      refine ⟨es, by simpa using hl, ?_, hk⟩
      refine Prod.ext (cleaned_pl hc [(0, .lst 32 es), (2, .bool false), (3, .int .i64 0)] h1 rfl rfl rfl ?_) h0
      simp only [List.forall_mem_cons]
      exact ⟨h2, h3, h4, fun _ h => by cases h⟩
    · cases hk
  · intro es i h1 h2 h3 h4
    exact ⟨by simp, (rd8 0 es (i : Int) (fun e ts h => some (e, ts, h))).trans ((if_pos (by simp; omega)).trans ((if_pos (by simp; omega)).trans (if_pos h3)))⟩
  · intro es i h1 h2 h3 h4
    refine (rd8 0 es (i : Int) (fun e ts h => some (e, ts, h))).trans ((if_pos (by simp; omega)).trans ((if_pos (by simp; omega)).trans ((if_neg (ne_true_of_eq_false h3)).trans ?_)))
    rw [wrap_i64 (by omega) (by omega)]; rfl
  · intro es h1 h2
    exact ⟨by simp, (rd8 0 es (es.length : Int) (fun e ts h => some (e, ts, h))).trans (if_neg (by simp))⟩

def mayE (e : List PV) : Bool := mayV (e.getD 0 .top).toI (e.getD 1 .top).toI (e.getD 2 .top).toS
def noMay (es : List (List PV)) (j : Nat) : Bool := !mayE (es.getD j [])

def g17 {R : Type} (B : BT R) : Smy R := fun ts h k =>
  match h, ts.length, ts.getD 0 .top, ts.getD 2 .top, ts.getD 3 .top with
  | [], 16, .lst 32 es, .bool false, .int .i64 0 =>
    B (decide (es.length < 4611686018427387904))
      (B (decide (fst (noMay es) es.length < es.length)) (k .ret (pl 16 [(0, .lst 32 es), (2, .bool false), (3, .int .i64 (fst (noMay es) es.length : Nat))]) [])
        (k (.exit 0) (pl 16 [(0, .lst 32 es), (2, .bool false), (3, .int .i64 (es.length : Nat))]) [])) none
  | _, _, _, _, _ => none

theorem loop17 {R : Type} : LoopTells Try.prog X2 M0 L1 0 (L1 17) (bodyOf Try.prog 17 2) (g17 (R := R) br) := by
  refine search_of (n := 0) (callK0 1) lsok_none (fun es : List (List PV) => es.length < 4611686018427387904) (fun es => es.length) noMay
    (fun es i => (pl 16 [(0, .lst 32 es), (2, .bool false), (3, .int .i64 (i : Nat))], []))
    (fun es i => (.ret, pl 16 [(0, .lst 32 es), (2, .bool false), (3, .int .i64 (i : Nat))], []))
    (fun es => (.exit 0, pl 16 [(0, .lst 32 es), (2, .bool false), (3, .int .i64 (es.length : Nat))], [])) (q := 2) (by kernel_rfl) ?_ ?_ ?_ ?_
  · intro ts h c k r hc hk
    unfold g17 at hk
    split at hk
    · rename_i es h0 h1 h2 h3 h4
      obtain ⟨hl, hk⟩ := br_test hk
      refine ⟨es, by simpa using hl, ?_, hk⟩
      refine Prod.ext (cleaned_pl hc [(0, .lst 32 es), (2, .bool false), (3, .int .i64 0)] h1 rfl rfl rfl ?_) h0
      simp only [List.forall_mem_cons]
      exact ⟨h2, h3, h4, fun _ h => by cases h⟩
    · cases hk
  · intro es i h1 h2 h3 h4
    exact ⟨by simp, (rd17 0 es (i : Int) (fun e ts h => some (e, ts, h))).trans ((if_pos (by simp; omega)).trans ((if_pos (by simp; omega)).trans (if_pos h3)))⟩
  · intro es i h1 h2 h3 h4
    refine (rd17 0 es (i : Int) (fun e ts h => some (e, ts, h))).trans ((if_pos (by simp; omega)).trans ((if_pos (by simp; omega)).trans ((if_neg (ne_true_of_eq_false h3)).trans ?_)))
    rw [wrap_i64 (by omega) (by omega)]; rfl
  · intro es h1 h2
    exact ⟨by simp, (rd17 0 es (es.length : Int) (fun e ts h => some (e, ts, h))).trans (if_neg (by simp))⟩

/-- how two elements compare -/
def cmpE (x y : List PV) : Int := cmpV (x.getD 0 .top).toI (x.getD 1 .top).toI (x.getD 2 .top).toS (y.getD 0 .top).toI (y.getD 1 .top).toI (y.getD 2 .top).toS

def unlike (s : List (List PV) × List (List PV)) (j : Nat) : Bool := cmpE (s.1.getD j []) (s.2.getD j []) != 0

def g15 {R : Type} (B : BT R) : Smy R := fun ts h k =>
  match h, ts.length, ts.getD 0 .top, ts.getD 1 .top, ts.getD 4 .top, ts.getD 5 .top with
  | [], 41, .lst 32 xs, .lst 32 ys, .int .i64 0, .int .i64 0 =>
    B (decide (xs.length < 4611686018427387904))
      (B (decide (fst (unlike (xs, ys)) (min xs.length ys.length) < min xs.length ys.length))
        (k .ret (pl 41 [(0, .lst 32 xs), (1, .lst 32 ys), (4, .int .i64 (cmpE (xs.getD (fst (unlike (xs, ys)) (min xs.length ys.length)) []) (ys.getD (fst (unlike (xs, ys)) (min xs.length ys.length)) []))), (5, .int .i64 (fst (unlike (xs, ys)) (min xs.length ys.length) : Nat))]) [])
        (k (.exit 0) (pl 41 [(0, .lst 32 xs), (1, .lst 32 ys), (4, .int .i64 0), (5, .int .i64 (min xs.length ys.length : Nat))]) [])) none
  | _, _, _, _, _, _ => none

theorem loop15 {R : Type} : LoopTells Try.prog X2 M0 L1 0 (L1 15) (bodyOf Try.prog 15 2) (g15 (R := R) br) := by
  refine search_of (n := 0) (callK0 1) lsok_none (fun s : List (List PV) × List (List PV) => s.1.length < 4611686018427387904) (fun s => min s.1.length s.2.length) unlike
    (fun s i => (pl 41 [(0, .lst 32 s.1), (1, .lst 32 s.2), (4, .int .i64 0), (5, .int .i64 (i : Nat))], []))
    (fun s i => (.ret, pl 41 [(0, .lst 32 s.1), (1, .lst 32 s.2), (4, .int .i64 (cmpE (s.1.getD i []) (s.2.getD i []))), (5, .int .i64 (i : Nat))], []))
    (fun s => (.exit 0, pl 41 [(0, .lst 32 s.1), (1, .lst 32 s.2), (4, .int .i64 0), (5, .int .i64 (min s.1.length s.2.length : Nat))], [])) (q := 2) (by kernel_rfl) ?_ ?_ ?_ ?_
  · intro ts h c k r hc hk
    unfold g15 at hk
    split at hk
    · rename_i xs ys h0 h1 h2 h3 h4 h5
      obtain ⟨hl, hk⟩ := br_test hk
      refine ⟨(xs, ys), by simpa using hl, ?_, hk⟩
      refine Prod.ext (cleaned_pl hc [(0, .lst 32 xs), (1, .lst 32 ys), (4, .int .i64 0), (5, .int .i64 0)] h1 rfl rfl rfl ?_) h0
      simp only [List.forall_mem_cons]
      exact ⟨h2, h3, h4, h5, fun _ h => by cases h⟩
    · cases hk
  · rintro ⟨xs, ys⟩ i h1 h2 h3 h4
    dsimp only at h1 h2
    exact ⟨by simp, (rd15 0 xs ys (i : Int) (fun e ts h => some (e, ts, h))).trans ((if_pos (by simp; omega)).trans ((if_pos (by simp; omega)).trans ((if_pos (by simp; omega)).trans ((if_pos (by simp; omega)).trans (if_pos h3)))))⟩
  · rintro ⟨xs, ys⟩ i h1 h2 h3 h4
    dsimp only at h1 h2
    refine (rd15 0 xs ys (i : Int) (fun e ts h => some (e, ts, h))).trans ((if_pos (by simp; omega)).trans ((if_pos (by simp; omega)).trans ((if_pos (by simp; omega)).trans ((if_pos (by simp; omega)).trans ((if_neg (ne_true_of_eq_false h3)).trans ?_)))))
    rw [wrap_i64 (by omega) (by omega)]; rfl
  · rintro ⟨xs, ys⟩ h1 h2
    refine ⟨by simp, (rd15 0 xs ys (min xs.length ys.length : Nat) (fun e ts h => some (e, ts, h))).trans ?_⟩
    by_cases h : xs.length ≤ ys.length
    · exact if_neg (by simp; omega)
    · exact (if_pos (by simp; omega)).trans (if_neg (by simp; omega))

def unlike' (s : List (List PV) × List (List PV)) (j : Nat) : Bool := decide (s.2.length ≤ j) || cmpE (s.1.getD j []) (s.2.getD j []) != 0
def cmpAt (s : List (List PV) × List (List PV)) (j : Nat) : Int := if s.2.length ≤ j then 1 else cmpE (s.1.getD j []) (s.2.getD j [])

def g23 {R : Type} (B : BT R) : Smy R := fun ts h k =>
  match h, ts.length, ts.getD 0 .top, ts.getD 1 .top, ts.getD 2 .top, ts.getD 6 .top, ts.getD 11 .top, ts.getD 12 .top, ts.getD 13 .top with
  | [], 39, .lst 32 x0, .lst 32 ys, .fn 24 [], .int .i64 0, .lst 32 xs, .int .i64 m, .int .i64 0 =>
    B (decide (xs.length < 4611686018427387904 ∧ m = xs.length))
      (B (decide (fst (unlike' (xs, ys)) xs.length < xs.length))
        (k .ret (pl 39 [(0, .lst 32 x0), (1, .lst 32 ys), (2, .fn 24 []), (6, .int .i64 (cmpAt (xs, ys) (fst (unlike' (xs, ys)) xs.length))), (11, .lst 32 xs), (12, .int .i64 m), (13, .int .i64 (fst (unlike' (xs, ys)) xs.length : Nat))]) [])
        (k (.exit 0) (pl 39 [(0, .lst 32 x0), (1, .lst 32 ys), (2, .fn 24 []), (6, .int .i64 0), (11, .lst 32 xs), (12, .int .i64 m), (13, .int .i64 (xs.length : Nat))]) [])) none
  | _, _, _, _, _, _, _, _, _ => none

theorem loop23 {R : Type} : LoopTells Try.prog X2 M0 L1 0 (L1 23) (bodyOf Try.prog 23 2) (g23 (R := R) br) := by
  refine search_of (n := 0) (callK0 1) lsok_none (fun s : List (List PV) × List (List PV) × List (List PV) × Int => s.1.length < 4611686018427387904 ∧ s.2.2.2 = s.1.length) (fun s => s.1.length) (fun s => unlike' (s.1, s.2.1))
    (fun s i => (pl 39 [(0, .lst 32 s.2.2.1), (1, .lst 32 s.2.1), (2, .fn 24 []), (6, .int .i64 0), (11, .lst 32 s.1), (12, .int .i64 s.2.2.2), (13, .int .i64 (i : Nat))], []))
    (fun s i => (.ret, pl 39 [(0, .lst 32 s.2.2.1), (1, .lst 32 s.2.1), (2, .fn 24 []), (6, .int .i64 (cmpAt (s.1, s.2.1) i)), (11, .lst 32 s.1), (12, .int .i64 s.2.2.2), (13, .int .i64 (i : Nat))], []))
    (fun s => (.exit 0, pl 39 [(0, .lst 32 s.2.2.1), (1, .lst 32 s.2.1), (2, .fn 24 []), (6, .int .i64 0), (11, .lst 32 s.1), (12, .int .i64 s.2.2.2), (13, .int .i64 (s.1.length : Nat))], [])) (q := 2) (by kernel_rfl) ?_ ?_ ?_ ?_
  · intro ts h c k r hc hk
    unfold g23 at hk
    split at hk
    · rename_i x0 ys xs m h0 h1 h2 h3 h4 h5 h6 h7 h8
      obtain ⟨hl, hk⟩ := br_test hk
      refine ⟨(xs, ys, x0, m), by simpa using hl, ?_, hk⟩
      refine Prod.ext (cleaned_pl hc [(0, .lst 32 x0), (1, .lst 32 ys), (2, .fn 24 []), (6, .int .i64 0), (11, .lst 32 xs), (12, .int .i64 m), (13, .int .i64 0)] h1 rfl rfl rfl ?_) h0
      simp only [List.forall_mem_cons]
      exact ⟨h2, h3, h4, h5, h6, h7, h8, fun _ h => by cases h⟩
    · cases hk
  · rintro ⟨xs, ys, x0, m⟩ i ⟨h1, h5⟩ h2 h3 h4
    dsimp only at h1 h5 h2
    refine ⟨by simp, (rd23 0 x0 xs ys m (i : Int) (fun e ts h => some (e, ts, h))).trans ((if_pos (by simp; omega)).trans ((if_pos (by simp; omega)).trans ?_))⟩
    by_cases hy : ys.length ≤ i
    · refine (if_pos (by simp; omega)).trans ?_
      dsimp only
      rw [cmpAt, if_pos hy]
    · refine (if_neg (by simp; omega)).trans ((if_pos (by simp; omega)).trans ((if_pos ?_).trans ?_))
      · simp only [unlike', hy, decide_false, Bool.false_or] at h3; exact h3
      · dsimp only
        rw [cmpAt, if_neg hy]; rfl
  · rintro ⟨xs, ys, x0, m⟩ i ⟨h1, h5⟩ h2 h3 h4
    dsimp only at h1 h5 h2
    have hy : ¬ ys.length ≤ i := fun h => by simp [unlike', h] at h3
    simp only [unlike', hy, decide_false, Bool.false_or] at h3
    refine (rd23 0 x0 xs ys m (i : Int) (fun e ts h => some (e, ts, h))).trans ((if_pos (by simp; omega)).trans ((if_pos (by simp; omega)).trans ((if_neg (by simp; omega)).trans ((if_pos (by simp; omega)).trans ((if_neg (ne_true_of_eq_false h3)).trans ?_)))))
    rw [wrap_i64 (by omega) (by omega)]; rfl
  · rintro ⟨xs, ys, x0, m⟩ ⟨h1, h5⟩ h2
    dsimp only at h1 h5
    refine ⟨by simp, (rd23 0 x0 xs ys m (xs.length : Nat) (fun e ts h => some (e, ts, h))).trans ?_⟩
    exact if_neg (by simp; omega)

end Go.Proofs.Ytnnogckknlgeiaa
end

section
/- Equations: what the machine prints. -/
set_option linter.unusedVariables false
namespace Go.Proofs.Ytnnogckknlgeiaa
open Go.Pu

abbrev LS2 {R : Type} (B : BT R) : FuncId → Nat → Nat → Option (Smy R) := lsT [(8, 0, 2, g8 B), (15, 0, 2, g15 B), (17, 0, 2, g17 B), (23, 0, 2, g23 B)]


set_option maxRecDepth 100000 in
theorem ev8 {R : Type} (n : Nat) (es : List (List PV)) (k : PV × Heap → Option R) :
  callK br Try.prog X2 M0 L1 (LS2 br) (n+9) 8 [.lst 32 es] [] k =
  br (decide (List.length es < 4611686018427387904))
  (br (decide (fst (isLong es) (List.length es) < List.length es)) (k (PV.bool false, []))
    (k (PV.bool (decide ((↑(List.length es) : Int) ≤ 40)), [])))
  none := by
  rw [← callF_eq]; kernel_rfl

set_option maxRecDepth 100000 in
theorem ev17 {R : Type} (n : Nat) (es : List (List PV)) (k : PV × Heap → Option R) :
  callK br Try.prog X2 M0 L1 (LS2 br) (n+9) 17 [.lst 32 es] [] k =
  br (decide (List.length es < 4611686018427387904))
  (br (decide (fst (noMay es) (List.length es) < List.length es)) (k (PV.bool false, [])) (k (PV.bool true, []))) none := by
  rw [← callF_eq]; kernel_rfl

set_option maxRecDepth 100000 in
theorem ev15 {R : Type} (n : Nat) (xs ys : List (List PV)) (k : PV × Heap → Option R) :
  callK br Try.prog X2 M0 L1 (LS2 br) (n+9) 15 [.lst 32 xs, .lst 32 ys] [] k =
  br (decide (List.length xs < 4611686018427387904))
  (br (decide (fst (unlike (xs, ys)) (min (List.length xs) (List.length ys)) < min (List.length xs) (List.length ys)))
    (k
      (PV.int IntKind.i64
          (cmpE (List.getD xs (fst (unlike (xs, ys)) (min (List.length xs) (List.length ys))) [])
            (List.getD ys (fst (unlike (xs, ys)) (min (List.length xs) (List.length ys))) [])),
        []))
    (br (decide ((↑(List.length xs) : Int) < (↑(List.length ys) : Int))) (k (PV.int IntKind.i64 (-1), []))
      (br (decide ((↑(List.length xs) : Int) > (↑(List.length ys) : Int))) (k (PV.int IntKind.i64 1, []))
        (k (PV.int IntKind.i64 0, [])))))
  none := by
  rw [← callF_eq]; kernel_rfl

set_option maxRecDepth 100000 in
theorem ev16 {R : Type} (n : Nat) (xs ys : List (List PV)) (k : PV × Heap → Option R) :
  callK br Try.prog X2 M0 L1 (LS2 br) (n+9) 16 [.lst 32 xs, .lst 32 ys] [] k =
  br (decide (List.length xs < 4611686018427387904))
  (br (decide (fst (unlike (xs, ys)) (min (List.length xs) (List.length ys)) < min (List.length xs) (List.length ys)))
    (k
      (PV.bool
          (cmpE (List.getD xs (fst (unlike (xs, ys)) (min (List.length xs) (List.length ys))) [])
              (List.getD ys (fst (unlike (xs, ys)) (min (List.length xs) (List.length ys))) []) ==
            0),
        []))
    (br (decide ((↑(List.length xs) : Int) < (↑(List.length ys) : Int))) (k (PV.bool false, []))
      (br (decide ((↑(List.length xs) : Int) > (↑(List.length ys) : Int))) (k (PV.bool false, []))
        (k (PV.bool true, [])))))
  none := by
  rw [← callF_eq]; kernel_rfl

set_option maxRecDepth 100000 in
theorem ev14 {R : Type} (n : Nat) (xs ys : List (List PV)) (k : PV × Heap → Option R) :
  callK br Try.prog X2 M0 L1 (LS2 br) (n+9) 14 [.lst 32 xs, .lst 32 ys] [] k =
  br (decide (List.length xs < 4611686018427387904 ∧ (↑(List.length xs) : Int) = (↑(List.length xs) : Int)))
  (br (decide (fst (unlike' (xs, ys)) (List.length xs) < List.length xs))
    (k (PV.int IntKind.i64 (cmpAt (xs, ys) (fst (unlike' (xs, ys)) (List.length xs))), []))
    (br (decide ((↑(List.length xs) : Int) < (↑(List.length ys) : Int))) (k (PV.int IntKind.i64 (-1), []))
      (k (PV.int IntKind.i64 0, []))))
  none := by
  rw [← callF_eq]; kernel_rfl

end Go.Proofs.Ytnnogckknlgeiaa
end

section
/- The Key program: what lists of values are told. -/
set_option linter.unusedVariables false
namespace Go.Proofs.Ytnnogckknlgeiaa
open Go.Pu

theorem fst_succ (p : Nat → Bool) (n : Nat) : fst p (n + 1) = if p 0 = true then 0 else fst (fun j => p (j + 1)) n + 1 := by
  by_cases h0 : p 0 = true
  · rw [if_pos h0]
    exact fst_at h0 (fun j hj => by omega) (by omega)
  · rw [if_neg h0]
    have h0' : p 0 = false := by simpa using h0
    have hb : ∀ j < fst (fun j => p (j + 1)) n + 1, p j = false := by
      intro j hj
      cases j with
      | zero => exact h0'
      | succ j => exact fst_before (p := fun j => p (j + 1)) (n := n) (by omega)
    by_cases h : fst (fun j => p (j + 1)) n < n
    · exact fst_at (i := fst (fun j => p (j + 1)) n + 1) (fst_hit (p := fun j => p (j + 1)) h) hb (by omega)
    · have := fst_le (fun j => p (j + 1)) n
      have e : fst (fun j => p (j + 1)) n = n := by omega
      rw [e] at hb ⊢
      exact fst_none hb

/-- few values, of short texts -/
def shortL (es : List (List PV)) : Bool := (es.all fun e => decide (¬ ((e.getD 2 .top).toS.size : Int) > 1000)) && decide (es.length ≤ 40)

def mayL (es : List (List PV)) : Bool := es.all mayE

/-- how two lists compare -/
def cmpL : List (List PV) → List (List PV) → Int
  | [], [] => 0
  | [], _ :: _ => -1
  | _ :: _, [] => 1
  | x :: xs, y :: ys => if cmpE x y = 0 then cmpL xs ys else cmpE x y

theorem fst_all (q : List PV → Bool) : ∀ es : List (List PV), decide (fst (fun j => q (es.getD j [])) es.length < es.length) = !es.all fun e => !q e
  | [] => rfl
  | e :: es => by
    have ih := fst_all q es
    simp only [List.length_cons, fst_succ]
    have e0 : (e :: es).getD 0 [] = e := rfl
    have es' : ∀ j, (e :: es).getD (j + 1) [] = es.getD j [] := fun j => rfl
    simp only [e0, es']
    by_cases h : q e = true
    · simp [h]
    · simp only [if_neg h, List.all_cons, Bool.not_eq_true] at h ⊢
      simp only [h, Bool.not_false, Bool.true_and, ← ih]
      simp

theorem cmp15 : ∀ xs ys : List (List PV), (if fst (unlike (xs, ys)) (min xs.length ys.length) < min xs.length ys.length then
    cmpE (xs.getD (fst (unlike (xs, ys)) (min xs.length ys.length)) []) (ys.getD (fst (unlike (xs, ys)) (min xs.length ys.length)) []) else if xs.length < ys.length then -1 else if xs.length > ys.length then 1 else 0) = cmpL xs ys
  | [], [] => rfl
  | [], y :: ys => by simp [fst, cmpL]
  | x :: xs, [] => by simp [fst, cmpL]
  | x :: xs, y :: ys => by
    have ih := cmp15 xs ys
    have hm : min (x :: xs).length (y :: ys).length = min xs.length ys.length + 1 := by simp only [List.length_cons]; omega
    rw [hm, fst_succ]
    have e0 : unlike (x :: xs, y :: ys) 0 = (cmpE x y != 0) := rfl
    have e1 : (fun j => unlike (x :: xs, y :: ys) (j + 1)) = unlike (xs, ys) := rfl
    rw [e0, e1]
    by_cases h : cmpE x y = 0
    · simp only [h, bne_self_eq_false, Bool.false_eq_true, if_false, List.getD_cons_succ, List.length_cons, Nat.add_lt_add_iff_right, cmpL, if_true]
      exact ih
    · simp [h, cmpL]

theorem cmp14 : ∀ xs ys : List (List PV), (if fst (unlike' (xs, ys)) xs.length < xs.length then cmpAt (xs, ys) (fst (unlike' (xs, ys)) xs.length) else if xs.length < ys.length then -1 else 0) = cmpL xs ys
  | [], [] => rfl
  | [], y :: ys => by simp [fst, cmpL]
  | x :: xs, [] => by
    have : fst (unlike' (x :: xs, [])) (x :: xs).length = 0 := fst_at (by simp [unlike']) (fun j hj => by omega) (by simp)
    rw [this]; simp [cmpL, cmpAt]
  | x :: xs, y :: ys => by
    have ih := cmp14 xs ys
    simp only [List.length_cons]
    rw [fst_succ]
    have e0 : unlike' (x :: xs, y :: ys) 0 = (cmpE x y != 0) := by simp [unlike']
    have e1 : (fun j => unlike' (x :: xs, y :: ys) (j + 1)) = unlike' (xs, ys) := by
      funext j
      simp [unlike']
    rw [e0, e1]
    by_cases h : cmpE x y = 0
    · simp only [h, bne_self_eq_false, Bool.false_eq_true, if_false, Nat.add_lt_add_iff_right, cmpL, if_true]
      rw [← ih]
      have : ∀ j, cmpAt (x :: xs, y :: ys) (j + 1) = cmpAt (xs, ys) j := fun j => by simp [cmpAt]
      rw [this]
    · simp [h, cmpL, cmpAt]

def gShort : List PV → List Blk → Tr
  | [.lst 32 es], [] => .test (decide (es.length < 4611686018427387904)) (.ret (.bool (shortL es)) []) .fail
  | _, _ => .fail
def gMayL : List PV → List Blk → Tr
  | [.lst 32 es], [] => .test (decide (es.length < 4611686018427387904)) (.ret (.bool (mayL es)) []) .fail
  | _, _ => .fail
def gCmpL : List PV → List Blk → Tr
  | [.lst 32 xs, .lst 32 ys], [] => .test (decide (xs.length < 4611686018427387904)) (.ret (.int .i64 (cmpL xs ys)) []) .fail
  | _, _ => .fail
def gSame : List PV → List Blk → Tr
  | [.lst 32 xs, .lst 32 ys], [] => .test (decide (xs.length < 4611686018427387904)) (.ret (.bool (cmpL xs ys == 0)) []) .fail
  | _, _ => .fail

theorem ls2_ok : LoopsOK (R := Res2) Try.prog X2 M0 L1 (LS2 br) := loopsOK_list rids fun e h => by
  simp only [List.mem_cons, List.not_mem_nil, or_false] at h
  rcases h with rfl | rfl | rfl | rfl
  · exact loop8
  · exact loop15
  · exact loop17
  · exact loop23

theorem tells8 : Tells Try.prog X2 M0 L1 (LS2 br) 8 gShort := by
  intro xs hc r hg
  unfold gShort at hg
  split at hg
  · rename_i es
    obtain ⟨h1, rfl⟩ := val_test hg
    refine ⟨9, (ev8 0 es _).trans ((if_pos h1).trans ?_)⟩
    have := fst_all (fun e => decide (((e.getD 2 .top).toS.size : Int) > 1000)) es
    have e : (fun j => decide ((((es.getD j []).getD 2 .top).toS.size : Int) > 1000)) = isLong es := rfl
    rw [e] at this
    rw [this]
    have e2 : (es.all fun e => !decide (((e.getD 2 .top).toS.size : Int) > 1000)) = es.all fun e => decide (¬ ((e.getD 2 .top).toS.size : Int) > 1000) := by
      congr 1; funext e; rw [decide_not]
    rw [e2]
    unfold shortL
    cases (es.all fun e => decide (¬ ((e.getD 2 .top).toS.size : Int) > 1000))
    · rfl
    · simp only [Bool.not_true, br, Bool.false_eq_true, if_false, Bool.true_and]
      congr 3
      simp; omega
  · cases hg

theorem tells17 : Tells Try.prog X2 M0 L1 (LS2 br) 17 gMayL := by
  intro xs hc r hg
  unfold gMayL at hg
  split at hg
  · rename_i es
    obtain ⟨h1, rfl⟩ := val_test hg
    refine ⟨9, (ev17 0 es _).trans ((if_pos h1).trans ?_)⟩
    have := fst_all (fun e => !mayE e) es
    have e : (fun j => !mayE (es.getD j [])) = noMay es := rfl
    rw [e] at this
    rw [this]
    simp only [Bool.not_not]
    unfold mayL
    cases es.all fun e => mayE e <;> rfl
  · cases hg

theorem tells15 : Tells Try.prog X2 M0 L1 (LS2 br) 15 gCmpL := by
  intro zs hc r hg
  unfold gCmpL at hg
  split at hg
  · rename_i xs ys
    obtain ⟨h1, rfl⟩ := val_test hg
    refine ⟨9, (ev15 0 xs ys _).trans ((if_pos h1).trans ?_)⟩
    rw [← cmp15]
    unfold br
    simp only [decide_eq_true_eq, Int.ofNat_lt, gt_iff_lt]
    split
    · rfl
    · split
      · rfl
      · split <;> rfl
  · cases hg

theorem cmpE_ne {xs ys : List (List PV)} (h : fst (unlike (xs, ys)) (min xs.length ys.length) < min xs.length ys.length) :
    cmpE (xs.getD (fst (unlike (xs, ys)) (min xs.length ys.length)) []) (ys.getD (fst (unlike (xs, ys)) (min xs.length ys.length)) []) ≠ 0 := by
  have := fst_hit h
  simpa [unlike] using this

theorem tells16 : Tells Try.prog X2 M0 L1 (LS2 br) 16 gSame := by
  intro zs hc r hg
  unfold gSame at hg
  split at hg
  · rename_i xs ys
    obtain ⟨h1, rfl⟩ := val_test hg
    refine ⟨9, (ev16 0 xs ys _).trans ((if_pos h1).trans ?_)⟩
    rw [← cmp15]
    unfold br
    simp only [decide_eq_true_eq, Int.ofNat_lt, gt_iff_lt]
    split
    · rfl
    · split
      · rfl
      · split <;> rfl
  · cases hg

theorem tells14 : Tells Try.prog X2 M0 L1 (LS2 br) 14 gCmpL := by
  intro zs hc r hg
  unfold gCmpL at hg
  split at hg
  · rename_i xs ys
    obtain ⟨h1, rfl⟩ := val_test hg
    refine ⟨9, (ev14 0 xs ys _).trans ((if_pos (by simpa using h1)).trans ?_)⟩
    rw [← cmp14]
    unfold br
    simp only [decide_eq_true_eq, Int.ofNat_lt]
    split
    · rfl
    · split <;> rfl
  · cases hg

set_option maxRecDepth 100000 in
theorem ev9 : callK br Try.prog X0 M0 L0 noLS 50 9 [] [] (fun y => some y) = some (.bool true, []) := by kernel_rfl

theorem tells9 : Tells Try.prog X0 M0 L0 noLS 9 gFixed := by
  intro zs hc r hg
  unfold gFixed at hg
  split at hg
  · cases hg
    exact ⟨50, ev9⟩
  · cases hg

/-- what is told so far -/
abbrev X3 : Ext := extT [(8, gShort), (9, gFixed), (14, gCmpL), (15, gCmpL), (16, gSame), (17, gMayL)] X2

theorem x2 : XOK Try.prog X2 := by
  refine xokT x0 ?_
  simp only [List.forall_mem_cons]
  exact ⟨eok mixed named x0 (noLS_ok _ _ M0 L0) tells26, eok mixed named x0 (noLS_ok _ _ M0 L0) tells19, eok mixed named x1 (noLS_ok _ _ M0 L0) tells24, eok mixed named x1 (noLS_ok _ _ M0 L0) tells25, fun _ h => by cases h⟩

theorem x3 : XOK Try.prog X3 := by
  refine xokT x2 ?_
  simp only [List.forall_mem_cons]
  exact ⟨eok mixed named x2 ls2_ok tells8, eok mixed named x0 (noLS_ok _ _ M0 L0) tells9, eok mixed named x2 ls2_ok tells14, eok mixed named x2 ls2_ok tells15, eok mixed named x2 ls2_ok tells16, eok mixed named x2 ls2_ok tells17, fun _ h => by cases h⟩

end Go.Proofs.Ytnnogckknlgeiaa
end

section
/- Equations: what the machine prints. -/
set_option linter.unusedVariables false
namespace Go.Proofs.Ytnnogckknlgeiaa
open Go.Pu


set_option maxRecDepth 100000 in
theorem ev7 {R : Type} (n : Nat) (ls xs ys : List (List PV)) (k : PV × Heap → Option R) :
  callK br Try.prog X3 M0 L1 (fun _ _ _ => none) (n+9) 7 [.lst 32 ls, .lst 32 xs, .lst 32 ys] [] k =
  br (decide (List.length ls < 4611686018427387904))
  (br (!shortL ls) (k (PV.bool true, []))
    (br (decide (List.length xs < 4611686018427387904))
      (br (!shortL xs) (k (PV.bool true, []))
        (br (decide (List.length ys < 4611686018427387904))
          (br (!shortL ys) (k (PV.bool true, []))
            (br (decide ((0 + List.length ls) * 32 ≤ 140737488355328))
              (br (decide ((List.length ls + List.length xs) * 32 ≤ 140737488355328))
                (br (decide ((0 + List.length ls) * 32 ≤ 140737488355328))
                  (br (decide ((List.length ls + List.length ys) * 32 ≤ 140737488355328))
                    (br (decide (List.length ls < 4611686018427387904))
                      (br (decide (List.length (ls ++ xs) < 4611686018427387904))
                        (br (decide (List.length xs < 4611686018427387904))
                          (br (cmpL (ls ++ xs) (ls ++ ys) == cmpL xs ys)
                            (br ((cmpL ls (ls ++ xs) == 0) == ((↑(List.length xs) : Int) == 0))
                              (k (PV.bool (decide (cmpL ls (ls ++ xs) ≤ 0)), [])) (k (PV.bool false, [])))
                            (k (PV.bool false, [])))
                          none)
                        none)
                      none)
                    none)
                  none)
                none)
              none))
          none))
      none))
  none := by
  rw [← callF_eq]; kernel_rfl

end Go.Proofs.Ytnnogckknlgeiaa
end

section
/- The Key program: what its laws are handed. -/
set_option linter.unusedVariables false
namespace Go.Proofs.Ytnnogckknlgeiaa
open Go.Pu

/-- an element is a value, laid out -/
def isV (e : List PV) : Prop := ∃ v w s, e = [.int .i64 v, .int .i64 w, .str s] ∧ (Lit.int .i64 v).wf = true ∧ (Lit.int .i64 w).wf = true ∧ s.size ≤ reachBytes

theorem arg22 {x : PV} (h : ArgGd Try.prog 22 x) : ∃ es, x = .lst 32 es ∧ es.length * 32 ≤ 140737488351232 ∧ (∀ e ∈ es, isV e) := by
  have e : ArgGd Try.prog 22 x = Gd Try.prog (.sl 32) x := by kernel_rfl
  rw [e] at h
  have b : Try.prog.bytesOf 32 = 32 := by kernel_rfl
  have l : kds Try.prog 32 = [.int .i64, .int .i64, .str] := by kernel_rfl
  cases h with
  | sl t es h1 h2 h3 h4 =>
    rw [b] at h1
    rw [l] at h3 h4
    refine ⟨es, rfl, h1, fun e he => ?_⟩
    obtain ⟨i, hi, rfl⟩ := List.mem_iff_getElem.1 he
    have e1 : es.getD i [] = es[i] := by simp [List.getD, hi]
    have g0 := h4 i 0 hi (by decide)
    have g1 := h4 i 1 hi (by decide)
    have g2 := h4 i 2 hi (by decide)
    have hl := h3 i hi
    rw [e1] at g0 g1 g2 hl
    generalize es[i] = e at g0 g1 g2 hl ⊢
    match e, hl with
    | [x, y, z], _ =>
      have g0 : Gd Try.prog (.int .i64) x := g0
      have g1 : Gd Try.prog (.int .i64) y := g1
      have g2 : Gd Try.prog .str z := g2
      cases g0 with
      | int _ v hv =>
        cases g1 with
        | int _ w hw =>
          cases g2 with
          | str s hs => exact ⟨v, w, s, rfl, hv, hw, hs⟩

theorem cmpE_self (e : List PV) : cmpE e e = 0 := by
  have h1 : ∀ a : Int, cmpI a a = 0 := fun a => cmpI_zero.2 rfl
  have h2 : ∀ l, Lib.compareBytes l l = 0 := fun l => compareBytes_zero.2 rfl
  simp [cmpE, cmpV, h1, h2]

theorem cmpL_self : ∀ l, cmpL l l = 0
  | [] => rfl
  | x :: xs => by simp [cmpL, cmpE_self, cmpL_self xs]

theorem cmpL_append : ∀ l xs ys, cmpL (l ++ xs) (l ++ ys) = cmpL xs ys
  | [], xs, ys => rfl
  | x :: l, xs, ys => by simp [cmpL, cmpE_self, cmpL_append l]

theorem cmpL_more (l xs : List (List PV)) : cmpL l (l ++ xs) = if xs = [] then 0 else -1 := by
  have := cmpL_append l [] xs
  rw [List.append_nil] at this
  rw [this]
  cases xs <;> simp [cmpL]

theorem shortL_len {es : List (List PV)} (h : shortL es = true) : es.length ≤ 40 := by
  simp only [shortL, Bool.and_eq_true, decide_eq_true_eq] at h
  exact h.2

theorem own : ownKnob Try.prog.godebug = none := by kernel_rfl
theorem laidOut : laidOutB Try.prog = true := by kernel_rfl

end Go.Proofs.Ytnnogckknlgeiaa
end
