/- Texts of this seat, one behind the other. -/
import Derived.Test.YtikmahlogjcieaaGreatTB
import Derived.Test.YtikmahlogjcieaaGreatRows
import Derived.Lib.Strings
import Derived.Lib.Slices
import Derived.Lib.Walk
import Derived.Lib.Bytealg
import Derived.KernelRfl
import Derived.Test.YtikmahlogjcieaaGreatTD
import Derived.Shelf.LaysM
import Derived.Shelf.Bits.Mul64
import Derived.Test.YtikmahlogjcieaaGreatProg
import Derived.Test.YtikmahlogjcieaaGreatTG
import Derived.Lib.AppendZeros
import Derived.Lib.SliceRun
import Derived.WalkKit
import Derived.Test.YtikmahlogjcieaaGreatTE
namespace Go.Proofs.YtikmahlogjcieaaGreat
open Go.Pu

set_option maxHeartbeats 1000000 in
set_option maxRecDepth 100000 in
theorem bytealg_CompareString (a b : ByteArray) (w : World) :
    Calls Tryz.prog 119 #[.string a, .string b] w fun e w' => e = .returned (.int .i64 (Lib.compareBytes a.data.toList b.data.toList)) ∧ w' = w := by
  go_enter Tryz.func119, Tryz.ntmps119
  go_wp2
  rw [run_callFunc_extern Tryz.func128 (by kernel_rfl) (by kernel_rfl) (by kernel_rfl) (e := Extern.BytealgCompare.compare) (by kernel_rfl), Lib.run_compareString]
  simp only [Result.andThen]
  rw [Oper.upon_value]
  go_wp2
  go_ret
  exact ⟨rfl, rfl⟩

set_option maxHeartbeats 1000000 in
theorem strings_Compare (a b : ByteArray) (w : World) :
    Calls Tryz.prog 105 #[.string a, .string b] w fun e w' => e = .returned (.int .i64 (Lib.compareBytes a.data.toList b.data.toList)) ∧ w' = w := by
  go_enter Tryz.func105, Tryz.ntmps105
  go_wp2_with (go_at_call 119; refine (bytealg_CompareString _ _ _).mono ?_; rintro e w' ⟨rfl, rfl⟩)
  go_ret
  exact ⟨rfl, rfl⟩

theorem mixed : Tryz.prog.follows .mixedOrders = true := by kernel_rfl

def namedB (P : Program) : Bool := P.funcs.toList.all fun fn => fn.body.isNone || fn.name != "runtime.NumGoroutine"

theorem named_of {P : Program} (h : namedB P = true) : Named P := by
  intro f fn hf hb hn
  have hm : fn ∈ P.funcs.toList := by
    have := Array.mem_of_getElem? hf
    simpa using this
  have := List.all_eq_true.1 h fn hm
  rw [Bool.or_eq_true] at this
  rcases this with h1 | h1
  · cases hh : fn.body <;> simp_all
  · rw [hn] at h1; simp at h1

set_option maxRecDepth 100000 in
theorem named : Named Tryz.prog := named_of (by kernel_rfl)

def X0 : Ext := fun f => if f = 105 then some fun | [.str a, .str b], [] => .ret (.int .i64 (Lib.compareBytes a.data.toList b.data.toList)) [] | _, _ => .fail else none

theorem x0 : XOK Tryz.prog X0 := by
  intro f g xs hc r hf hg
  unfold X0 at hf
  split at hf
  · rename_i hf31
    subst hf31
    cases hf
    refine ⟨⟨_, Tryz.func105, by kernel_rfl⟩, fun E vs hE hbk hI hL => ?_⟩
    dsimp only at hg
    split at hg
    · rename_i a b
      cases hg
      obtain ⟨hl, hr⟩ := hL
      match vs, hl, hr with
      | [u, v], _, hr =>
        have h0 := (hr 0 (by simp)).str_inv
        have h1 := (hr 1 (by simp)).str_inv
        simp at h0 h1
        subst h0
        subst h1
        refine (strings_Compare a b E.w).mono ?_
        rintro e w' ⟨rfl, rfl⟩
        exact ⟨_, E, rfl, rfl, hE, (Trans.refl E).toK (Nat.zero_le _), hI, .int _ _⟩
    · cases hg
  · cases hf

theorem rids : ridsOK Tryz.prog = true := by kernel_rfl
theorem own : ownKnob Tryz.prog.godebug = none := by kernel_rfl
theorem laidOut : laidOutB Tryz.prog = true := by kernel_rfl

end Go.Proofs.YtikmahlogjcieaaGreat

set_option linter.unusedVariables false
namespace Go.Proofs.YtikmahlogjcieaaGreat
open Go.Pu

def L0 : FuncId → Nat → Option (List Nat) := fun _ _ => none
def M0 : FuncId → Bool := fun _ => false

theorem cloneRow1 (e : List PV) (es : List (List PV)) : callK br Tryz.prog X0 M0 L0 noLS 10 43 [.lst 56 (e :: es)] [] (fun y => fixR Tryz.prog [] 0 y) =
    br (decide ((0 + (e :: es).length) * 32 ≤ 140737488355328)) (some (.all 0, [.arr 56 (e :: es) true])) none := by rw [← callF_eq]; kernel_rfl
theorem cloneRow2 : callK br Tryz.prog X0 M0 L0 noLS 10 43 [.nils] [] (fun y => fixR Tryz.prog [1000000 * (2 * 56 + 1)] 0 y) =
    some (.all 0, [.arr 56 [] true]) := by rw [← callF_eq]; kernel_rfl
theorem cloneRow3 : callK br Tryz.prog X0 M0 L0 noLS 10 43 [.new 56 [[]]] [] (fun y => fixR Tryz.prog [] 0 y) =
    some (.all 0, [.arr 56 [] true]) := by rw [← callF_eq]; kernel_rfl

theorem eCloneRow : EOK Tryz.prog 43 (gClone 56 32) :=
  eokClone (fun e es h => rowAt_of mixed named x0 (noLS_ok _ _ _ _) (fuel := 10) (plan := []) ((cloneRow1 e es).trans (br_pos (decide_eq_true h))))
    (rowAt_of mixed named x0 (noLS_ok _ _ _ _) (fuel := 10) (plan := [1000000 * (2 * 56 + 1)]) cloneRow2)
    (rowAt_of mixed named x0 (noLS_ok _ _ _ _) (fuel := 10) (plan := []) cloneRow3)

noncomputable abbrev XB : Ext := extT [(43, gClone 56 32)] X0
theorem xB : XOK Tryz.prog XB := xok1 x0 eCloneRow

end Go.Proofs.YtikmahlogjcieaaGreat

namespace Go.Proofs
open Go.Shelf
def Tryz.lays264_ren : Go.Shelf.Ren := ⟨fun | 264 => 125 | n => n, fun | 53 => 102 | 46 => 134 | n => n, fun | n => n⟩
theorem Tryz.lays264 : Go.Proofs.Lays.n264 Tryz.prog Tryz.lays264_ren := {
  mixed := by kernel_rfl
  f264 := Tryz.func125.trans (congrArg some (by kernel_rfl))
  t46 := Tryz.underlying134
  a46 := Tryz.isAgg134
  z46 := Tryz.sizeOf134
  v46 := Tryz.zeroValue134
  t53 := Tryz.underlying102
  a53 := Tryz.isAgg102
  z53 := Tryz.sizeOf102
  v53 := Tryz.zeroValue102 }
open Go.RowKit Go.Lib in
theorem Tryz.bits_Mul64 (x y : Nat) (hx : x < 18446744073709551616) (hy : y < 18446744073709551616) (w : World) :
    Calls Tryz.prog 125 #[.int .u64 x, .int .u64 y] w fun e w' => e = .returned (.tuple #[.int .u64 ((x * y / 18446744073709551616 : Nat) : Int), .int .u64 ((x * y % 18446744073709551616 : Nat) : Int)]) ∧ w' = w := Any.bits_Mul64 Tryz.lays264 x y hx hy w
end Go.Proofs

set_option linter.unusedVariables false
namespace Go.Proofs.YtikmahlogjcieaaGreat
open Go Go.Pu Go.RowKit

def mulHi (x y : Int) : Int := x * y / 18446744073709551616
def mulLo (x y : Int) : Int := x * y % 18446744073709551616
def inU64 (x : Int) : Bool := decide (0 ≤ x ∧ x < 18446744073709551616)

def gMul64 : List PV → List Blk → Tr := fun xs hc => match xs, hc with
  | [.int .u64 x, .int .u64 y], [] => .test (inU64 x && inU64 y) (.ret (.tuple [.int .u64 (mulHi x y), .int .u64 (mulLo x y)]) []) .fail
  | _, _ => .fail

set_option maxRecDepth 100000 in
theorem eMul64 : EOK Tryz.prog 125 gMul64 := eok_rows fun xs hc r hg => by
  unfold gMul64 at hg
  split at hg
  · rename_i x y
    obtain ⟨hb, rfl⟩ := val_test hg
    rw [Bool.and_eq_true] at hb
    have hx := of_decide_eq_true hb.1
    have hy := of_decide_eq_true hb.2
    refine rowLib ⟨_, Tryz.func125, by kernel_rfl⟩ fun E vs hE hI hL => ?_
    obtain ⟨v, vs', rfl, h1, h2⟩ := repL_0 hL
    obtain ⟨v', vs'', rfl, h3, h4⟩ := repL_0 h2
    obtain rfl := repL_nil h4
    obtain rfl := h1.int_inv
    obtain rfl := h3.int_inv
    obtain ⟨x', rfl⟩ : ∃ x' : Nat, x = x' := ⟨x.toNat, by omega⟩
    obtain ⟨y', rfl⟩ : ∃ y' : Nat, y = y' := ⟨y.toNat, by omega⟩
    refine (Tryz.bits_Mul64 x' y' (by omega) (by omega) E.w).mono ?_
    rintro e w' ⟨rfl, rfl⟩
    refine ⟨_, rfl, Grow.refl _, fun E' => .tuple _ _ rfl fun i hi => ?_⟩
    have : i = 0 ∨ i = 1 := by simp at hi; omega
    rcases this with rfl | rfl
    · have e1 : mulHi x' y' = ((x' * y' / 18446744073709551616 : Nat) : Int) := by simp [mulHi]
      simp only [e1]; exact .int _ _
    · have e1 : mulLo x' y' = ((x' * y' % 18446744073709551616 : Nat) : Int) := by simp [mulLo]
      simp only [e1]; exact .int _ _
  · cases hg

noncomputable abbrev XD : Ext := extT [(125, gMul64)] XB
theorem xD : XOK Tryz.prog XD := xok1 xB eMul64

end Go.Proofs.YtikmahlogjcieaaGreat

set_option linter.unusedVariables false
set_option linter.unusedSimpArgs false
namespace Go.Proofs.YtikmahlogjcieaaGreat
open Go Go.Pu Go.RowKit

def gGrow : List PV → List Blk → Tr := fun xs hc => match xs, hc with
  | [.nils, .int .i64 n], [] => .test (decide (0 ≤ n ∧ n * 32 ≤ 140737488355328)) (.ret (.all 0) [.arr 56 [] true]) .fail
  | _, _ => .fail

set_option maxHeartbeats 4000000 in
set_option maxRecDepth 100000 in
theorem growRow0 (w : World) : Calls Tryz.prog 77 #[.slice none 0 0, .int .i64 0] w fun e w' => e = .returned (.slice none 0 0) ∧ w' = w := by
  go_enter Tryz.func77, Tryz.ntmps77
  go_wp2
  go_ret
  exact ⟨rfl, rfl⟩

set_option maxHeartbeats 4000000 in
set_option maxRecDepth 100000 in
theorem growRow1 (n : Nat) (h0 : 0 < n) (hn : n * 32 ≤ 140737488355328) (w : World) : ∃ (c : Array Value), n * 3 ≤ c.size ∧ n ≤ grownCap w n 0 56 ∧ grownCap w n 0 56 * 3 ≤ c.size ∧
    Calls Tryz.prog 77 #[.slice none 0 0, .int .i64 n] w fun e w' => e = .returned (.slice (some ⟨w.heap.size, 0, none⟩) 0 (grownCap w n 0 56)) ∧ w' = w.drew.alloc (.cells c 56) := by
  obtain ⟨i0, hi0, hs0, hb0, z, hz0, hzc⟩ : ∃ i0 : TypeInfo, Tryz.prog.info? 56 = some i0 ∧ i0.size = 3 ∧ i0.bytes = 32 ∧ ∃ z, i0.zero = some z ∧ z.cells.size = 3 := by
    have a1 : (Tryz.prog.info? 56).map (·.size) = some 3 := by kernel_rfl
    have a2 : (Tryz.prog.info? 56).map (·.bytes) = some 32 := by kernel_rfl
    have a3 : ((Tryz.prog.info? 56).bind fun i => i.zero.map (·.cells.size)) = some 3 := by kernel_rfl
    cases hi : Tryz.prog.info? 56 with
    | none => rw [hi] at a1; cases a1
    | some i =>
      rw [hi] at a1 a2 a3
      cases hz : i.zero with
      | none => simp [hz] at a3
      | some z => exact ⟨i, rfl, by simpa using a1, by simpa using a2, z, hz, by simpa [hz] using a3⟩
  have hge := grownCap_ge w n 0 56
  have hrz : ∀ ty, (Builtin.append_ #[52, 3] ty #[.slice none 0 0, .int .i64 (n : Int)]).run Tryz.prog w =
      .ok (.slice (some ⟨w.heap.size, 0, none⟩) n (grownCap w n 0 56)) (w.drew.alloc (.cells (Builtin.zeroCells z.cells n ++ Builtin.zeroCells z.cells (grownCap w n 0 56 - n)) 56)) := fun ty =>
    Lib.run_append_nil_zeros w 52 3 ty 56 i0 z .i64 .i64 (by kernel_rfl) (by kernel_rfl) hi0 hz0 n h0 (by omega) (by omega) (by rw [hb0]; omega)
  have hG63 : grownCap w n 0 56 ≤ 9223372036854775807 := by
    have := grownCap_le_maxLen w n 0 56 (by unfold maxLen; omega)
    unfold maxLen at this
    omega
  refine ⟨Builtin.zeroCells z.cells n ++ Builtin.zeroCells z.cells (grownCap w n 0 56 - n), ?_, hge, ?_, ?_⟩
  · rw [Array.size_append, size_zeroCells', size_zeroCells', hzc]; omega
  · rw [Array.size_append, size_zeroCells', size_zeroCells', hzc]; omega
  · generalize grownCap w n 0 56 = G at *
    generalize Builtin.zeroCells z.cells n ++ Builtin.zeroCells z.cells (G - n) = C at *
    have h1 : ¬ ((n : Int) < 0) := by omega
    have h3 : wrap64 ((n : Int) - 0) = (n : Int) := by unfold wrap64; omega
    have h4 : (n : Int) > 0 := by omega
    go_enter Tryz.func77, Tryz.ntmps77
    go_wp2_with (at_builtin; refine Lib.wpList_append_run _ rfl _ _ _ _ rfl _ _ rfl rfl _ _ (hrz _) ?_)
    all_goals (go_ret; exact ⟨rfl, rfl⟩)

set_option maxRecDepth 100000 in
theorem eGrow : EOK Tryz.prog 77 gGrow := eok_rows fun xs hc r hg => by
  unfold gGrow at hg
  split at hg
  · rename_i n
    obtain ⟨hb, rfl⟩ := val_test hg
    have hb := of_decide_eq_true hb
    refine ⟨⟨_, Tryz.func77, by kernel_rfl⟩, fun E vs hE hok hI hL => ?_⟩
    obtain ⟨v, vs', rfl, h1, h2⟩ := repL_0 hL
    obtain ⟨v', vs'', rfl, h3, h4⟩ := repL_0 h2
    obtain rfl := repL_nil h4
    obtain rfl := h3.int_inv
    have hs : elSize Tryz.prog 56 = some 3 := by kernel_rfl
    cases h1 with
    | nils =>
      by_cases h0 : n = 0
      · subst h0
        refine (growRow0 E.w).mono ?_
        rintro e w' ⟨rfl, rfl⟩
        obtain ⟨E', e1, e2, e3, e4, e5⟩ := add_none (al := none) hI trivial 56 hs none
        rw [hE] at e2 e5
        exact ⟨_, E', rfl, e1, e2, e3.toK (Nat.zero_le _), e4, e5⟩
      · obtain ⟨m, rfl⟩ : ∃ m : Nat, n = m := ⟨n.toNat, by omega⟩
        obtain ⟨c, c1, c2, c3, c4⟩ := growRow1 m (by omega) (by omega) E.w
        refine c4.mono ?_
        rintro e w' ⟨rfl, rfl⟩
        have hG : Grow E.w (E.w.drew.alloc (.cells c 56)) := by
          refine ⟨by show _ ≤ (E.w.heap.push _).size; simp, rfl, rfl, rfl, fun k hk => ?_⟩
          show (E.w.heap.push _)[k]? = E.w.heap[k]?
          simp [Array.getElem?_push, Nat.ne_of_lt hk]
        obtain ⟨E', e1, e2, e3, e4, e5⟩ := add_arr (al := none) hI trivial 56 56 hs (es := []) (c := c) (w' := E.w.drew.alloc (.cells c 56)) (blk := E.w.heap.size) hG (Nat.le_refl _)
          (show (E.w.heap.push _)[E.w.heap.size]? = _ by simp) (by simp) (fun i hi => by simp at hi) (fun i j hi hj => by simp at hi) (cap := grownCap E.w m 0 56) (by simp) c3
        rw [hE] at e2 e5
        exact ⟨_, E', rfl, e1, e2, e3.toK (Nat.zero_le _), e4, e5⟩
  · cases hg

noncomputable abbrev XG : Ext := extT [(77, gGrow)] XD
theorem xG : XOK Tryz.prog XG := xok1 xD eGrow

end Go.Proofs.YtikmahlogjcieaaGreat

set_option linter.unusedVariables false
namespace Go.Proofs.YtikmahlogjcieaaGreat
open Go Go.Pu

theorem cloneCnt1 (e : List PV) (es : List (List PV)) : callK br Tryz.prog X0 M0 L0 noLS 10 61 [.lst 54 (e :: es)] [] (fun y => fixR Tryz.prog [] 0 y) =
    br (decide ((0 + (e :: es).length) * 32 ≤ 140737488355328)) (some (.all 0, [.arr 54 (e :: es) true])) none := by rw [← callF_eq]; kernel_rfl
theorem cloneCnt2 : callK br Tryz.prog X0 M0 L0 noLS 10 61 [.nils] [] (fun y => fixR Tryz.prog [1000000 * (2 * 54 + 1)] 0 y) =
    some (.all 0, [.arr 54 [] true]) := by rw [← callF_eq]; kernel_rfl
theorem cloneCnt3 : callK br Tryz.prog X0 M0 L0 noLS 10 61 [.new 54 [[]]] [] (fun y => fixR Tryz.prog [] 0 y) =
    some (.all 0, [.arr 54 [] true]) := by rw [← callF_eq]; kernel_rfl

theorem eCloneCnt : EOK Tryz.prog 61 (gClone 54 32) :=
  eokClone (fun e es h => rowAt_of mixed named x0 (noLS_ok _ _ _ _) (fuel := 10) (plan := []) ((cloneCnt1 e es).trans (br_pos (decide_eq_true h))))
    (rowAt_of mixed named x0 (noLS_ok _ _ _ _) (fuel := 10) (plan := [1000000 * (2 * 54 + 1)]) cloneCnt2)
    (rowAt_of mixed named x0 (noLS_ok _ _ _ _) (fuel := 10) (plan := []) cloneCnt3)

noncomputable abbrev XI : Ext := extT [(61, gClone 54 32)] XG
theorem xI : XOK Tryz.prog XI := xok1 xG eCloneCnt

end Go.Proofs.YtikmahlogjcieaaGreat

set_option linter.unusedVariables false
namespace Go.Proofs.YtikmahlogjcieaaGreat
open Go Go.Pu

def L_cmp_isNaN_int : FuncId → Nat → Option (List Nat) := liveT []
def M_cmp_isNaN_int : FuncId → Bool := fun _ => false
def S_cmp_isNaN_int : FSp := ⟨[.one (.i .i64)], [], [], [([.one (.b)], [])]⟩
noncomputable def m_cmp_isNaN_int : List U → Rt
  | [.i v0] =>
    (.stop 0 [.b (v0 != v0)])
  | _ => .fail
set_option maxRecDepth 100000 in
theorem q_cmp_isNaN_int (v0 : Int) : callK br Tryz.prog XI M_cmp_isNaN_int L_cmp_isNaN_int (lsT []) 60 118 (encs [.i v0] 0 S_cmp_isNaN_int.ap) (encH [.i v0] (ws S_cmp_isNaN_int.ap) S_cmp_isNaN_int.ah) (fun y => fixR Tryz.prog S_cmp_isNaN_int.plan S_cmp_isNaN_int.ah.length y) =
    (m_cmp_isNaN_int [.i v0]).go br (fun _ => none) S_cmp_isNaN_int.fin := by
  rw [← callF_eq]; kernel_rfl
theorem e_cmp_isNaN_int : EOK Tryz.prog 118 (gI S_cmp_isNaN_int m_cmp_isNaN_int) :=
  eokTold mixed named xI (loopsOK_list rids noneIn) 60 S_cmp_isNaN_int m_cmp_isNaN_int (by
    intro us v h; unfold m_cmp_isNaN_int at h; split at h
    · rename_i v0; exact q_cmp_isNaN_int v0
    · cases h) true
noncomputable abbrev X1 : Ext := extT [(118, (gI S_cmp_isNaN_int m_cmp_isNaN_int))] XI
theorem x1 : XOK Tryz.prog X1 := xok1 xI e_cmp_isNaN_int

def L_cmp_Compare_int : FuncId → Nat → Option (List Nat) := liveT []
def M_cmp_Compare_int : FuncId → Bool := fun _ => false
def S_cmp_Compare_int : FSp := ⟨[.one (.i .i64), .one (.i .i64)], [], [], [([.one (.i .i64)], [])]⟩
noncomputable def m_cmp_Compare_int : List U → Rt
  | [.i v0, .i v1] =>
    (.test (v0 != v0)
    (.test (v1 != v1)
    (.stop 0 [.i ((0 : Int))])
    (.stop 0 [.i ((-1 : Int))]))
    (.test (v1 != v1)
    (.stop 0 [.i ((1 : Int))])
    (.test (decide (v0 < v1))
    (.stop 0 [.i ((-1 : Int))])
    (.test (decide (v0 > v1))
    (.stop 0 [.i ((1 : Int))])
    (.stop 0 [.i ((0 : Int))])))))
  | _ => .fail
set_option maxRecDepth 100000 in
theorem q_cmp_Compare_int (v0 : Int) (v1 : Int) : callK br Tryz.prog X1 M_cmp_Compare_int L_cmp_Compare_int (lsT []) 60 104 (encs [.i v0, .i v1] 0 S_cmp_Compare_int.ap) (encH [.i v0, .i v1] (ws S_cmp_Compare_int.ap) S_cmp_Compare_int.ah) (fun y => fixR Tryz.prog S_cmp_Compare_int.plan S_cmp_Compare_int.ah.length y) =
    (m_cmp_Compare_int [.i v0, .i v1]).go br (fun _ => none) S_cmp_Compare_int.fin := by
  rw [← callF_eq]; kernel_rfl
theorem e_cmp_Compare_int : EOK Tryz.prog 104 (gF S_cmp_Compare_int m_cmp_Compare_int) :=
  eokTold mixed named x1 (loopsOK_list rids noneIn) 60 S_cmp_Compare_int m_cmp_Compare_int (by
    intro us v h; unfold m_cmp_Compare_int at h; split at h
    · rename_i v0 v1; exact q_cmp_Compare_int v0 v1
    · cases h) false
noncomputable abbrev X2 : Ext := extT [(104, (gF S_cmp_Compare_int m_cmp_Compare_int))] X1
theorem x2 : XOK Tryz.prog X2 := xok1 x1 e_cmp_Compare_int

def L_value_Compare : FuncId → Nat → Option (List Nat) := liveT [(103, 3, [3, 6, 7, 8]), (103, 1000003, [3]), (103, 2000003, [2])]
def M_value_Compare : FuncId → Bool := fun _ => false
noncomputable def rd_value_Compare_103_3 : List U → Rt
  | [.i v0, .l v1, .i v2, .i v3] =>
    (.test (decide (v3 < v2))
    (.test (inR v3 (ln v1))
    (.test (cI (el v1 v3) 0 != v0)
    (.stop 0 [.i (cI (el v1 v3) 0)])
    (.next [.i v0, .l v1, .i v2, .i (w64 (v3 + (1 : Int)))]))
    .fail)
    (.stop 1 [.i v0]))
  | _ => .fail
def sp_value_Compare_103_3 : LSp := ⟨18, ⟨[(3, .one (.i .i64)), (6, .one (.l 3)), (7, .one (.i .i64)), (8, .one (.i .i64))], []⟩, [(.ret, ⟨[(2, .one (.i .i64))], []⟩), (.exit 0, ⟨[(3, .one (.i .i64))], []⟩)]⟩
set_option maxRecDepth 100000 in
theorem rq_value_Compare_103_3 (v0 : Int) (v1 : List (List PV)) (v2 : Int) (v3 : Int) : runK br Tryz.prog (callK br Tryz.prog X2 M_value_Compare L_value_Compare (lsT []) 40) M_value_Compare (lsT [] 103 0) 40 0 (L_value_Compare 103) (bodyOf Tryz.prog 103 3) (sp_value_Compare_103_3.s.ts sp_value_Compare_103_3.n [.i v0, .l v1, .i v2, .i v3]) (sp_value_Compare_103_3.s.h [.i v0, .l v1, .i v2, .i v3]) (idc Tryz.prog 0 (L_value_Compare 103) 3) =
    (rd_value_Compare_103_3 [.i v0, .l v1, .i v2, .i v3]).go br (fun us' => some (.normal, sp_value_Compare_103_3.s.ts sp_value_Compare_103_3.n us', sp_value_Compare_103_3.s.h us')) sp_value_Compare_103_3.fin := by
  rw [← callF_eq, ← runF_eq]; kernel_rfl
theorem lo_value_Compare_103_3 {R : Type} : LoopTells Tryz.prog X2 M_value_Compare L_value_Compare 0 (L_value_Compare 103) (bodyOf Tryz.prog 103 3) (gL (R := R) sp_value_Compare_103_3 rd_value_Compare_103_3 br) :=
  loopTold (callK_ev (loopsOK_list rids noneIn) 40) (lsokIn (loopsOK_list rids noneIn) 103 0 3) (by kernel_rfl) sp_value_Compare_103_3 rd_value_Compare_103_3 rfl (by kernel_rfl) (by
    intro us v h; unfold rd_value_Compare_103_3 at h; split at h
    · rename_i v0 v1 v2 v3; exact rq_value_Compare_103_3 v0 v1 v2 v3
    · cases h)
noncomputable abbrev ll_value_Compare_103_3 {R : Type} : List (Nat × Nat × Nat × Smy R) := (103, 0, 3, gL sp_value_Compare_103_3 rd_value_Compare_103_3 br) :: []
theorem lk_value_Compare_103_3 {R : Type} : ∀ e ∈ ll_value_Compare_103_3 (R := R), LoopTells Tryz.prog X2 M_value_Compare L_value_Compare e.2.1 (L_value_Compare e.1) (bodyOf Tryz.prog e.1 e.2.2.1) e.2.2.2 := List.forall_mem_cons.2 ⟨lo_value_Compare_103_3, noneIn⟩
def S_value_Compare : FSp := ⟨[.agg [.i .i64, .i .i64, .s], .agg [.i .i64, .i .i64, .s]], [], [], [([.one (.i .i64)], [])]⟩
noncomputable def m_value_Compare : List U → Rt
  | [.i v0, .i v1, .s v2, .i v3, .i v4, .s v5] =>
    (let r0 : Rs := (Rt.res (m_cmp_Compare_int [U.i v0, U.i v3]))
    (.test (ok r0 0)
    (let r1 : Rs := (Rt.res (m_cmp_Compare_int [U.i v1, U.i v4]))
    (.test (ok r1 0)
    (let r2 : Rs := (lres rd_value_Compare_103_3 [U.i (0 : Int), U.l [[pI (uI (out r0 0) 0)], [pI (uI (out r1 0) 0)], [pI (Lib.compareBytes (Array.toList (ByteArray.data v2)) (Array.toList (ByteArray.data v5)))]], U.i (3 : Int), U.i (0 : Int)])
    (.test (ok r2 0)
    (.stop 0 [.i (uI (out r2 0) 0)])
    (.test (ok r2 1)
    (.stop 0 [.i (uI (out r2 1) 0)])
    .fail)))
    .fail))
    .fail))
  | _ => .fail
set_option maxRecDepth 100000 in
theorem q_value_Compare (v0 : Int) (v1 : Int) (v2 : ByteArray) (v3 : Int) (v4 : Int) (v5 : ByteArray) : callK br Tryz.prog X2 M_value_Compare L_value_Compare (lsT ll_value_Compare_103_3) 60 88 (encs [.i v0, .i v1, .s v2, .i v3, .i v4, .s v5] 0 S_value_Compare.ap) (encH [.i v0, .i v1, .s v2, .i v3, .i v4, .s v5] (ws S_value_Compare.ap) S_value_Compare.ah) (fun y => fixR Tryz.prog S_value_Compare.plan S_value_Compare.ah.length y) =
    (m_value_Compare [.i v0, .i v1, .s v2, .i v3, .i v4, .s v5]).go br (fun _ => none) S_value_Compare.fin := by
  rw [← callF_eq]; kernel_rfl
theorem e_value_Compare : EOK Tryz.prog 88 (gF S_value_Compare m_value_Compare) :=
  eokTold mixed named x2 (loopsOK_list rids lk_value_Compare_103_3) 60 S_value_Compare m_value_Compare (by
    intro us v h; unfold m_value_Compare at h; split at h
    · rename_i v0 v1 v2 v3 v4 v5; exact q_value_Compare v0 v1 v2 v3 v4 v5
    · cases h) false
noncomputable abbrev X3 : Ext := extT [(88, (gF S_value_Compare m_value_Compare))] X2
theorem x3 : XOK Tryz.prog X3 := xok1 x2 e_value_Compare

def L_key_Compare : FuncId → Nat → Option (List Nat) := liveT [(87, 2, [0, 1, 2, 11, 12, 13]), (87, 1000002, [0, 1]), (87, 2000002, [6])]
def M_key_Compare : FuncId → Bool := fun _ => false
noncomputable def rd_key_Compare_87_2 : List U → Rt
  | [.l v0, .l v1, .l v2, .i v3, .i v4] =>
    (.test (decide (v4 < v3))
    (.test (inR v4 (ln v2))
    (.test (decide (v4 ≥ ln v1))
    (.stop 0 [.i ((1 : Int))])
    (.test (inR v4 (ln v1))
    (let r0 : Rs := (Rt.res (m_value_Compare [U.i (cI (el v2 v4) 0), U.i (cI (el v2 v4) 1), U.s (cS (el v2 v4) 2), U.i (cI (el v1 v4) 0), U.i (cI (el v1 v4) 1), U.s (cS (el v1 v4) 2)]))
    (.test (ok r0 0)
    (.test (uI (out r0 0) 0 != (0 : Int))
    (.stop 0 [.i (uI (out r0 0) 0)])
    (.next [.l v0, .l v1, .l v2, .i v3, .i (w64 (v4 + (1 : Int)))]))
    .fail))
    .fail))
    .fail)
    (.stop 1 [.l v0, .l v1]))
  | _ => .fail
def sp_key_Compare_87_2 : LSp := ⟨39, ⟨[(0, .one (.l 56)), (1, .one (.l 56)), (2, .fn 88 []), (11, .one (.l 56)), (12, .one (.i .i64)), (13, .one (.i .i64))], []⟩, [(.ret, ⟨[(6, .one (.i .i64))], []⟩), (.exit 0, ⟨[(0, .one (.l 56)), (1, .one (.l 56))], []⟩)]⟩
set_option maxRecDepth 100000 in
theorem rq_key_Compare_87_2 (v0 : List (List PV)) (v1 : List (List PV)) (v2 : List (List PV)) (v3 : Int) (v4 : Int) : runK br Tryz.prog (callK br Tryz.prog X3 M_key_Compare L_key_Compare (lsT []) 40) M_key_Compare (lsT [] 87 0) 40 0 (L_key_Compare 87) (bodyOf Tryz.prog 87 2) (sp_key_Compare_87_2.s.ts sp_key_Compare_87_2.n [.l v0, .l v1, .l v2, .i v3, .i v4]) (sp_key_Compare_87_2.s.h [.l v0, .l v1, .l v2, .i v3, .i v4]) (idc Tryz.prog 0 (L_key_Compare 87) 2) =
    (rd_key_Compare_87_2 [.l v0, .l v1, .l v2, .i v3, .i v4]).go br (fun us' => some (.normal, sp_key_Compare_87_2.s.ts sp_key_Compare_87_2.n us', sp_key_Compare_87_2.s.h us')) sp_key_Compare_87_2.fin := by
  rw [← callF_eq, ← runF_eq]; kernel_rfl
theorem lo_key_Compare_87_2 {R : Type} : LoopTells Tryz.prog X3 M_key_Compare L_key_Compare 0 (L_key_Compare 87) (bodyOf Tryz.prog 87 2) (gL (R := R) sp_key_Compare_87_2 rd_key_Compare_87_2 br) :=
  loopTold (callK_ev (loopsOK_list rids noneIn) 40) (lsokIn (loopsOK_list rids noneIn) 87 0 2) (by kernel_rfl) sp_key_Compare_87_2 rd_key_Compare_87_2 rfl (by kernel_rfl) (by
    intro us v h; unfold rd_key_Compare_87_2 at h; split at h
    · rename_i v0 v1 v2 v3 v4; exact rq_key_Compare_87_2 v0 v1 v2 v3 v4
    · cases h)
noncomputable abbrev ll_key_Compare_87_2 {R : Type} : List (Nat × Nat × Nat × Smy R) := (87, 0, 2, gL sp_key_Compare_87_2 rd_key_Compare_87_2 br) :: []
theorem lk_key_Compare_87_2 {R : Type} : ∀ e ∈ ll_key_Compare_87_2 (R := R), LoopTells Tryz.prog X3 M_key_Compare L_key_Compare e.2.1 (L_key_Compare e.1) (bodyOf Tryz.prog e.1 e.2.2.1) e.2.2.2 := List.forall_mem_cons.2 ⟨lo_key_Compare_87_2, noneIn⟩
def S_key_Compare : FSp := ⟨[.one (.l 56), .one (.l 56)], [], [], [([.one (.i .i64)], [])]⟩
noncomputable def m_key_Compare : List U → Rt
  | [.l v0, .l v1] =>
    (let r0 : Rs := (lres rd_key_Compare_87_2 [U.l v0, U.l v1, U.l v0, U.i (ln v0), U.i (0 : Int)])
    (.test (ok r0 0)
    (.stop 0 [.i (uI (out r0 0) 0)])
    (.test (ok r0 1)
    (.test (decide (ln (uL (out r0 1) 0) < ln (uL (out r0 1) 1)))
    (.stop 0 [.i ((-1 : Int))])
    (.stop 0 [.i ((0 : Int))]))
    .fail)))
  | _ => .fail
set_option maxRecDepth 100000 in
theorem q_key_Compare (v0 : List (List PV)) (v1 : List (List PV)) : callK br Tryz.prog X3 M_key_Compare L_key_Compare (lsT ll_key_Compare_87_2) 60 75 (encs [.l v0, .l v1] 0 S_key_Compare.ap) (encH [.l v0, .l v1] (ws S_key_Compare.ap) S_key_Compare.ah) (fun y => fixR Tryz.prog S_key_Compare.plan S_key_Compare.ah.length y) =
    (m_key_Compare [.l v0, .l v1]).go br (fun _ => none) S_key_Compare.fin := by
  rw [← callF_eq]; kernel_rfl
theorem e_key_Compare : EOK Tryz.prog 75 (gF S_key_Compare m_key_Compare) :=
  eokTold mixed named x3 (loopsOK_list rids lk_key_Compare_87_2) 60 S_key_Compare m_key_Compare (by
    intro us v h; unfold m_key_Compare at h; split at h
    · rename_i v0 v1; exact q_key_Compare v0 v1
    · cases h) false
noncomputable abbrev X4 : Ext := extT [(75, (gF S_key_Compare m_key_Compare))] X3
theorem x4 : XOK Tryz.prog X4 := xok1 x3 e_key_Compare

def L_row_Compare : FuncId → Nat → Option (List Nat) := liveT []
def M_row_Compare : FuncId → Bool := fun _ => false
def S_row_Compare : FSp := ⟨[.one (.l 56), .one (.l 56)], [], [], [([.one (.i .i64)], [])]⟩
noncomputable def m_row_Compare : List U → Rt
  | [.l v0, .l v1] =>
    (let r0 : Rs := (Rt.res (m_key_Compare [U.l v0, U.l v1]))
    (.test (ok r0 0)
    (.stop 0 [.i (uI (out r0 0) 0)])
    .fail))
  | _ => .fail
set_option maxRecDepth 100000 in
theorem q_row_Compare (v0 : List (List PV)) (v1 : List (List PV)) : callK br Tryz.prog X4 M_row_Compare L_row_Compare (lsT []) 60 55 (encs [.l v0, .l v1] 0 S_row_Compare.ap) (encH [.l v0, .l v1] (ws S_row_Compare.ap) S_row_Compare.ah) (fun y => fixR Tryz.prog S_row_Compare.plan S_row_Compare.ah.length y) =
    (m_row_Compare [.l v0, .l v1]).go br (fun _ => none) S_row_Compare.fin := by
  rw [← callF_eq]; kernel_rfl
theorem e_row_Compare : EOK Tryz.prog 55 (gF S_row_Compare m_row_Compare) :=
  eokTold mixed named x4 (loopsOK_list rids noneIn) 60 S_row_Compare m_row_Compare (by
    intro us v h; unfold m_row_Compare at h; split at h
    · rename_i v0 v1; exact q_row_Compare v0 v1
    · cases h) false
noncomputable abbrev X5 : Ext := extT [(55, (gF S_row_Compare m_row_Compare))] X4
theorem x5 : XOK Tryz.prog X5 := xok1 x4 e_row_Compare

def L_slices_insertionSortCmpFunc_Count : FuncId → Nat → Option (List Nat) := liveT [(89, 4, [0, 1, 2, 3, 8, 9]), (89, 1000004, [0, 1, 2, 3, 8]), (89, 2000004, []), (89, 1, [0, 1, 2, 3, 8]), (89, 1000001, []), (89, 2000001, [])]
def M_slices_insertionSortCmpFunc_Count : FuncId → Bool := fun _ => false
noncomputable def rd_slices_insertionSortCmpFunc_Count_89_4 : List U → Rt
  | [.i v0, .i v1, .i v2, .i v3, .l v4] =>
    (.test (decide (v3 > v0))
    (.test (inR v3 (ln v4))
    (.test (decide (Int.toNat v3 < List.length v4))
    (.test (inR (w64 (v3 - (1 : Int))) (ln v4))
    (.test (decide (Int.toNat (w64 (v3 - (1 : Int))) < List.length v4))
    (let r0 : Rs := (Rt.res (m_row_Compare [U.l (cL (el v4 v3) 0), U.l (cL (el v4 (w64 (v3 - (1 : Int)))) 0)]))
    (.test (ok r0 0)
    (.test (decide (uI (out r0 0) 0 < (0 : Int)))
    (.test (inR (w64 (v3 - (1 : Int))) (ln v4))
    (.test (decide (Int.toNat (w64 (v3 - (1 : Int))) < List.length v4))
    (.test (inR v3 (ln v4))
    (.test (decide (Int.toNat v3 < List.length v4))
    (.test (inR v3 (ln v4))
    (.test (decide (Int.toNat v3 < List.length v4))
    (.test (inR (w64 (v3 - (1 : Int))) (ln (List.set v4 (Int.toNat v3) (setCells (el v4 v3) 0 [PV.lst 56 (cL (el v4 (w64 (v3 - (1 : Int)))) 0), pI (cI (el v4 (w64 (v3 - (1 : Int)))) 1)]))))
    (.test (decide (Int.toNat (w64 (v3 - (1 : Int))) < List.length (List.set v4 (Int.toNat v3) (setCells (el v4 v3) 0 [PV.lst 56 (cL (el v4 (w64 (v3 - (1 : Int)))) 0), pI (cI (el v4 (w64 (v3 - (1 : Int)))) 1)]))))
    (.next [.i v0, .i v1, .i v2, .i (w64 (v3 - (1 : Int))), .l (List.set (List.set v4 (Int.toNat v3) (setCells (el v4 v3) 0 [PV.lst 56 (cL (el v4 (w64 (v3 - (1 : Int)))) 0), pI (cI (el v4 (w64 (v3 - (1 : Int)))) 1)])) (Int.toNat (w64 (v3 - (1 : Int)))) (setCells (el (List.set v4 (Int.toNat v3) (setCells (el v4 v3) 0 [PV.lst 56 (cL (el v4 (w64 (v3 - (1 : Int)))) 0), pI (cI (el v4 (w64 (v3 - (1 : Int)))) 1)])) (w64 (v3 - (1 : Int)))) 0 [PV.lst 56 (cL (el v4 v3) 0), pI (cI (el v4 v3) 1)]))])
    .fail)
    .fail)
    .fail)
    .fail)
    .fail)
    .fail)
    .fail)
    .fail)
    (.stop 0 [.i v0, .i v1, .i v2, .l v4]))
    .fail))
    .fail)
    .fail)
    .fail)
    .fail)
    (.stop 0 [.i v0, .i v1, .i v2, .l v4]))
  | _ => .fail
def sp_slices_insertionSortCmpFunc_Count_89_4 : LSp := ⟨53, ⟨[(0, .one (.all 0)), (1, .one (.i .i64)), (2, .one (.i .i64)), (3, .fn 63 []), (8, .one (.i .i64)), (9, .one (.i .i64))], [.arr 54 true]⟩, [(.exit 2, ⟨[(0, .one (.all 0)), (1, .one (.i .i64)), (2, .one (.i .i64)), (3, .fn 63 []), (8, .one (.i .i64))], [.arr 54 true]⟩)]⟩
set_option maxRecDepth 100000 in
theorem rq_slices_insertionSortCmpFunc_Count_89_4 (v0 : Int) (v1 : Int) (v2 : Int) (v3 : Int) (v4 : List (List PV)) : runK br Tryz.prog (callK br Tryz.prog X5 M_slices_insertionSortCmpFunc_Count L_slices_insertionSortCmpFunc_Count (lsT []) 40) M_slices_insertionSortCmpFunc_Count (lsT [] 89 1) 40 1 (L_slices_insertionSortCmpFunc_Count 89) (bodyOf Tryz.prog 89 4) (sp_slices_insertionSortCmpFunc_Count_89_4.s.ts sp_slices_insertionSortCmpFunc_Count_89_4.n [.i v0, .i v1, .i v2, .i v3, .l v4]) (sp_slices_insertionSortCmpFunc_Count_89_4.s.h [.i v0, .i v1, .i v2, .i v3, .l v4]) (idc Tryz.prog 1 (L_slices_insertionSortCmpFunc_Count 89) 4) =
    (rd_slices_insertionSortCmpFunc_Count_89_4 [.i v0, .i v1, .i v2, .i v3, .l v4]).go br (fun us' => some (.normal, sp_slices_insertionSortCmpFunc_Count_89_4.s.ts sp_slices_insertionSortCmpFunc_Count_89_4.n us', sp_slices_insertionSortCmpFunc_Count_89_4.s.h us')) sp_slices_insertionSortCmpFunc_Count_89_4.fin := by
  rw [← callF_eq, ← runF_eq]; kernel_rfl
theorem lo_slices_insertionSortCmpFunc_Count_89_4 {R : Type} : LoopTells Tryz.prog X5 M_slices_insertionSortCmpFunc_Count L_slices_insertionSortCmpFunc_Count 1 (L_slices_insertionSortCmpFunc_Count 89) (bodyOf Tryz.prog 89 4) (gL (R := R) sp_slices_insertionSortCmpFunc_Count_89_4 rd_slices_insertionSortCmpFunc_Count_89_4 br) :=
  loopTold (callK_ev (loopsOK_list rids noneIn) 40) (lsokIn (loopsOK_list rids noneIn) 89 1 4) (by kernel_rfl) sp_slices_insertionSortCmpFunc_Count_89_4 rd_slices_insertionSortCmpFunc_Count_89_4 rfl (by kernel_rfl) (by
    intro us v h; unfold rd_slices_insertionSortCmpFunc_Count_89_4 at h; split at h
    · rename_i v0 v1 v2 v3 v4; exact rq_slices_insertionSortCmpFunc_Count_89_4 v0 v1 v2 v3 v4
    · cases h)
noncomputable abbrev ll_slices_insertionSortCmpFunc_Count_89_4 {R : Type} : List (Nat × Nat × Nat × Smy R) := (89, 1, 4, gL sp_slices_insertionSortCmpFunc_Count_89_4 rd_slices_insertionSortCmpFunc_Count_89_4 br) :: []
theorem lk_slices_insertionSortCmpFunc_Count_89_4 {R : Type} : ∀ e ∈ ll_slices_insertionSortCmpFunc_Count_89_4 (R := R), LoopTells Tryz.prog X5 M_slices_insertionSortCmpFunc_Count L_slices_insertionSortCmpFunc_Count e.2.1 (L_slices_insertionSortCmpFunc_Count e.1) (bodyOf Tryz.prog e.1 e.2.2.1) e.2.2.2 := List.forall_mem_cons.2 ⟨lo_slices_insertionSortCmpFunc_Count_89_4, noneIn⟩
noncomputable def rd_slices_insertionSortCmpFunc_Count_89_1 : List U → Rt
  | [.i v0, .i v1, .i v2, .l v3] =>
    (.test (decide (v2 < v1))
    (let r0 : Rs := (lres rd_slices_insertionSortCmpFunc_Count_89_4 [U.i v0, U.i v1, U.i v2, U.i v2, U.l v3])
    (.test (ok r0 0)
    (.next [.i (uI (out r0 0) 0), .i (uI (out r0 0) 1), .i (w64 (uI (out r0 0) 2 + (1 : Int))), .l (uL (out r0 0) 3)])
    .fail))
    (.stop 0 [.l v3]))
  | _ => .fail
def sp_slices_insertionSortCmpFunc_Count_89_1 : LSp := ⟨53, ⟨[(0, .one (.all 0)), (1, .one (.i .i64)), (2, .one (.i .i64)), (3, .fn 63 []), (8, .one (.i .i64))], [.arr 54 true]⟩, [(.exit 0, ⟨[], [.arr 54 true]⟩)]⟩
set_option maxRecDepth 100000 in
theorem rq_slices_insertionSortCmpFunc_Count_89_1 (v0 : Int) (v1 : Int) (v2 : Int) (v3 : List (List PV)) : runK br Tryz.prog (callK br Tryz.prog X5 M_slices_insertionSortCmpFunc_Count L_slices_insertionSortCmpFunc_Count (lsT ll_slices_insertionSortCmpFunc_Count_89_4) 40) M_slices_insertionSortCmpFunc_Count (lsT ll_slices_insertionSortCmpFunc_Count_89_4 89 1) 40 1 (L_slices_insertionSortCmpFunc_Count 89) (bodyOf Tryz.prog 89 1) (sp_slices_insertionSortCmpFunc_Count_89_1.s.ts sp_slices_insertionSortCmpFunc_Count_89_1.n [.i v0, .i v1, .i v2, .l v3]) (sp_slices_insertionSortCmpFunc_Count_89_1.s.h [.i v0, .i v1, .i v2, .l v3]) (idc Tryz.prog 1 (L_slices_insertionSortCmpFunc_Count 89) 1) =
    (rd_slices_insertionSortCmpFunc_Count_89_1 [.i v0, .i v1, .i v2, .l v3]).go br (fun us' => some (.normal, sp_slices_insertionSortCmpFunc_Count_89_1.s.ts sp_slices_insertionSortCmpFunc_Count_89_1.n us', sp_slices_insertionSortCmpFunc_Count_89_1.s.h us')) sp_slices_insertionSortCmpFunc_Count_89_1.fin := by
  rw [← callF_eq, ← runF_eq]; kernel_rfl
theorem lo_slices_insertionSortCmpFunc_Count_89_1 {R : Type} : LoopTells Tryz.prog X5 M_slices_insertionSortCmpFunc_Count L_slices_insertionSortCmpFunc_Count 1 (L_slices_insertionSortCmpFunc_Count 89) (bodyOf Tryz.prog 89 1) (gL (R := R) sp_slices_insertionSortCmpFunc_Count_89_1 rd_slices_insertionSortCmpFunc_Count_89_1 br) :=
  loopTold (callK_ev (loopsOK_list rids lk_slices_insertionSortCmpFunc_Count_89_4) 40) (lsokIn (loopsOK_list rids lk_slices_insertionSortCmpFunc_Count_89_4) 89 1 1) (by kernel_rfl) sp_slices_insertionSortCmpFunc_Count_89_1 rd_slices_insertionSortCmpFunc_Count_89_1 rfl (by kernel_rfl) (by
    intro us v h; unfold rd_slices_insertionSortCmpFunc_Count_89_1 at h; split at h
    · rename_i v0 v1 v2 v3; exact rq_slices_insertionSortCmpFunc_Count_89_1 v0 v1 v2 v3
    · cases h)
noncomputable abbrev ll_slices_insertionSortCmpFunc_Count_89_1 {R : Type} : List (Nat × Nat × Nat × Smy R) := (89, 1, 1, gL sp_slices_insertionSortCmpFunc_Count_89_1 rd_slices_insertionSortCmpFunc_Count_89_1 br) :: ll_slices_insertionSortCmpFunc_Count_89_4
theorem lk_slices_insertionSortCmpFunc_Count_89_1 {R : Type} : ∀ e ∈ ll_slices_insertionSortCmpFunc_Count_89_1 (R := R), LoopTells Tryz.prog X5 M_slices_insertionSortCmpFunc_Count L_slices_insertionSortCmpFunc_Count e.2.1 (L_slices_insertionSortCmpFunc_Count e.1) (bodyOf Tryz.prog e.1 e.2.2.1) e.2.2.2 := List.forall_mem_cons.2 ⟨lo_slices_insertionSortCmpFunc_Count_89_1, lk_slices_insertionSortCmpFunc_Count_89_4⟩
def S_slices_insertionSortCmpFunc_Count : FSp := ⟨[.one (.all 0), .one (.i .i64), .one (.i .i64), .fn 63 []], [.arr 54 true], [], [([], [.arr 54 true])]⟩
noncomputable def m_slices_insertionSortCmpFunc_Count : List U → Rt
  | [.i v0, .i v1, .l v2] =>
    (let r0 : Rs := (lres rd_slices_insertionSortCmpFunc_Count_89_1 [U.i v0, U.i v1, U.i (w64 (v0 + (1 : Int))), U.l v2])
    (.test (ok r0 0)
    (.stop 0 [.l (uL (out r0 0) 0)])
    .fail))
  | _ => .fail
set_option maxRecDepth 100000 in
theorem q_slices_insertionSortCmpFunc_Count (v0 : Int) (v1 : Int) (v2 : List (List PV)) : callK br Tryz.prog X5 M_slices_insertionSortCmpFunc_Count L_slices_insertionSortCmpFunc_Count (lsT ll_slices_insertionSortCmpFunc_Count_89_1) 60 89 (encs [.i v0, .i v1, .l v2] 0 S_slices_insertionSortCmpFunc_Count.ap) (encH [.i v0, .i v1, .l v2] (ws S_slices_insertionSortCmpFunc_Count.ap) S_slices_insertionSortCmpFunc_Count.ah) (fun y => fixR Tryz.prog S_slices_insertionSortCmpFunc_Count.plan S_slices_insertionSortCmpFunc_Count.ah.length y) =
    (m_slices_insertionSortCmpFunc_Count [.i v0, .i v1, .l v2]).go br (fun _ => none) S_slices_insertionSortCmpFunc_Count.fin := by
  rw [← callF_eq]; kernel_rfl
theorem e_slices_insertionSortCmpFunc_Count : EOK Tryz.prog 89 (gF S_slices_insertionSortCmpFunc_Count m_slices_insertionSortCmpFunc_Count) :=
  eokTold mixed named x5 (loopsOK_list rids lk_slices_insertionSortCmpFunc_Count_89_1) 60 S_slices_insertionSortCmpFunc_Count m_slices_insertionSortCmpFunc_Count (by
    intro us v h; unfold m_slices_insertionSortCmpFunc_Count at h; split at h
    · rename_i v0 v1 v2; exact q_slices_insertionSortCmpFunc_Count v0 v1 v2
    · cases h) false
noncomputable abbrev X6 : Ext := extT [(89, (gF S_slices_insertionSortCmpFunc_Count m_slices_insertionSortCmpFunc_Count))] X5
theorem x6 : XOK Tryz.prog X6 := xok1 x5 e_slices_insertionSortCmpFunc_Count

def L_slices_swapRangeCmpFunc_Count : FuncId → Nat → Option (List Nat) := liveT [(120, 1, [0, 1, 2, 3, 10]), (120, 1000001, []), (120, 2000001, [])]
def M_slices_swapRangeCmpFunc_Count : FuncId → Bool := fun _ => false
noncomputable def rd_slices_swapRangeCmpFunc_Count_120_1 : List U → Rt
  | [.i v0, .i v1, .i v2, .i v3, .l v4] =>
    (.test (decide (v3 < v2))
    (.test (inR (w64 (v1 + v3)) (ln v4))
    (.test (decide (Int.toNat (w64 (v1 + v3)) < List.length v4))
    (.test (inR (w64 (v0 + v3)) (ln v4))
    (.test (decide (Int.toNat (w64 (v0 + v3)) < List.length v4))
    (.test (inR (w64 (v0 + v3)) (ln v4))
    (.test (decide (Int.toNat (w64 (v0 + v3)) < List.length v4))
    (.test (inR (w64 (v1 + v3)) (ln (List.set v4 (Int.toNat (w64 (v0 + v3))) (setCells (el v4 (w64 (v0 + v3))) 0 [PV.lst 56 (cL (el v4 (w64 (v1 + v3))) 0), pI (cI (el v4 (w64 (v1 + v3))) 1)]))))
    (.test (decide (Int.toNat (w64 (v1 + v3)) < List.length (List.set v4 (Int.toNat (w64 (v0 + v3))) (setCells (el v4 (w64 (v0 + v3))) 0 [PV.lst 56 (cL (el v4 (w64 (v1 + v3))) 0), pI (cI (el v4 (w64 (v1 + v3))) 1)]))))
    (.next [.i v0, .i v1, .i v2, .i (w64 (v3 + (1 : Int))), .l (List.set (List.set v4 (Int.toNat (w64 (v0 + v3))) (setCells (el v4 (w64 (v0 + v3))) 0 [PV.lst 56 (cL (el v4 (w64 (v1 + v3))) 0), pI (cI (el v4 (w64 (v1 + v3))) 1)])) (Int.toNat (w64 (v1 + v3))) (setCells (el (List.set v4 (Int.toNat (w64 (v0 + v3))) (setCells (el v4 (w64 (v0 + v3))) 0 [PV.lst 56 (cL (el v4 (w64 (v1 + v3))) 0), pI (cI (el v4 (w64 (v1 + v3))) 1)])) (w64 (v1 + v3))) 0 [PV.lst 56 (cL (el v4 (w64 (v0 + v3))) 0), pI (cI (el v4 (w64 (v0 + v3))) 1)]))])
    .fail)
    .fail)
    .fail)
    .fail)
    .fail)
    .fail)
    .fail)
    .fail)
    (.stop 0 [.l v4]))
  | _ => .fail
def sp_slices_swapRangeCmpFunc_Count_120_1 : LSp := ⟨38, ⟨[(0, .one (.all 0)), (1, .one (.i .i64)), (2, .one (.i .i64)), (3, .one (.i .i64)), (10, .one (.i .i64))], [.arr 54 true]⟩, [(.exit 0, ⟨[], [.arr 54 true]⟩)]⟩
set_option maxRecDepth 100000 in
theorem rq_slices_swapRangeCmpFunc_Count_120_1 (v0 : Int) (v1 : Int) (v2 : Int) (v3 : Int) (v4 : List (List PV)) : runK br Tryz.prog (callK br Tryz.prog X6 M_slices_swapRangeCmpFunc_Count L_slices_swapRangeCmpFunc_Count (lsT []) 40) M_slices_swapRangeCmpFunc_Count (lsT [] 120 1) 40 1 (L_slices_swapRangeCmpFunc_Count 120) (bodyOf Tryz.prog 120 1) (sp_slices_swapRangeCmpFunc_Count_120_1.s.ts sp_slices_swapRangeCmpFunc_Count_120_1.n [.i v0, .i v1, .i v2, .i v3, .l v4]) (sp_slices_swapRangeCmpFunc_Count_120_1.s.h [.i v0, .i v1, .i v2, .i v3, .l v4]) (idc Tryz.prog 1 (L_slices_swapRangeCmpFunc_Count 120) 1) =
    (rd_slices_swapRangeCmpFunc_Count_120_1 [.i v0, .i v1, .i v2, .i v3, .l v4]).go br (fun us' => some (.normal, sp_slices_swapRangeCmpFunc_Count_120_1.s.ts sp_slices_swapRangeCmpFunc_Count_120_1.n us', sp_slices_swapRangeCmpFunc_Count_120_1.s.h us')) sp_slices_swapRangeCmpFunc_Count_120_1.fin := by
  rw [← callF_eq, ← runF_eq]; kernel_rfl
theorem lo_slices_swapRangeCmpFunc_Count_120_1 {R : Type} : LoopTells Tryz.prog X6 M_slices_swapRangeCmpFunc_Count L_slices_swapRangeCmpFunc_Count 1 (L_slices_swapRangeCmpFunc_Count 120) (bodyOf Tryz.prog 120 1) (gL (R := R) sp_slices_swapRangeCmpFunc_Count_120_1 rd_slices_swapRangeCmpFunc_Count_120_1 br) :=
  loopTold (callK_ev (loopsOK_list rids noneIn) 40) (lsokIn (loopsOK_list rids noneIn) 120 1 1) (by kernel_rfl) sp_slices_swapRangeCmpFunc_Count_120_1 rd_slices_swapRangeCmpFunc_Count_120_1 rfl (by kernel_rfl) (by
    intro us v h; unfold rd_slices_swapRangeCmpFunc_Count_120_1 at h; split at h
    · rename_i v0 v1 v2 v3 v4; exact rq_slices_swapRangeCmpFunc_Count_120_1 v0 v1 v2 v3 v4
    · cases h)
noncomputable abbrev ll_slices_swapRangeCmpFunc_Count_120_1 {R : Type} : List (Nat × Nat × Nat × Smy R) := (120, 1, 1, gL sp_slices_swapRangeCmpFunc_Count_120_1 rd_slices_swapRangeCmpFunc_Count_120_1 br) :: []
theorem lk_slices_swapRangeCmpFunc_Count_120_1 {R : Type} : ∀ e ∈ ll_slices_swapRangeCmpFunc_Count_120_1 (R := R), LoopTells Tryz.prog X6 M_slices_swapRangeCmpFunc_Count L_slices_swapRangeCmpFunc_Count e.2.1 (L_slices_swapRangeCmpFunc_Count e.1) (bodyOf Tryz.prog e.1 e.2.2.1) e.2.2.2 := List.forall_mem_cons.2 ⟨lo_slices_swapRangeCmpFunc_Count_120_1, noneIn⟩
def S_slices_swapRangeCmpFunc_Count : FSp := ⟨[.one (.all 0), .one (.i .i64), .one (.i .i64), .one (.i .i64), .fn 63 []], [.arr 54 true], [], [([], [.arr 54 true])]⟩
noncomputable def m_slices_swapRangeCmpFunc_Count : List U → Rt
  | [.i v0, .i v1, .i v2, .l v3] =>
    (let r0 : Rs := (lres rd_slices_swapRangeCmpFunc_Count_120_1 [U.i v0, U.i v1, U.i v2, U.i (0 : Int), U.l v3])
    (.test (ok r0 0)
    (.stop 0 [.l (uL (out r0 0) 0)])
    .fail))
  | _ => .fail
set_option maxRecDepth 100000 in
theorem q_slices_swapRangeCmpFunc_Count (v0 : Int) (v1 : Int) (v2 : Int) (v3 : List (List PV)) : callK br Tryz.prog X6 M_slices_swapRangeCmpFunc_Count L_slices_swapRangeCmpFunc_Count (lsT ll_slices_swapRangeCmpFunc_Count_120_1) 60 120 (encs [.i v0, .i v1, .i v2, .l v3] 0 S_slices_swapRangeCmpFunc_Count.ap) (encH [.i v0, .i v1, .i v2, .l v3] (ws S_slices_swapRangeCmpFunc_Count.ap) S_slices_swapRangeCmpFunc_Count.ah) (fun y => fixR Tryz.prog S_slices_swapRangeCmpFunc_Count.plan S_slices_swapRangeCmpFunc_Count.ah.length y) =
    (m_slices_swapRangeCmpFunc_Count [.i v0, .i v1, .i v2, .l v3]).go br (fun _ => none) S_slices_swapRangeCmpFunc_Count.fin := by
  rw [← callF_eq]; kernel_rfl
theorem e_slices_swapRangeCmpFunc_Count : EOK Tryz.prog 120 (gF S_slices_swapRangeCmpFunc_Count m_slices_swapRangeCmpFunc_Count) :=
  eokTold mixed named x6 (loopsOK_list rids lk_slices_swapRangeCmpFunc_Count_120_1) 60 S_slices_swapRangeCmpFunc_Count m_slices_swapRangeCmpFunc_Count (by
    intro us v h; unfold m_slices_swapRangeCmpFunc_Count at h; split at h
    · rename_i v0 v1 v2 v3; exact q_slices_swapRangeCmpFunc_Count v0 v1 v2 v3
    · cases h) false
noncomputable abbrev X7 : Ext := extT [(120, (gF S_slices_swapRangeCmpFunc_Count m_slices_swapRangeCmpFunc_Count))] X6
theorem x7 : XOK Tryz.prog X7 := xok1 x6 e_slices_swapRangeCmpFunc_Count

def L_slices_rotateCmpFunc_Count : FuncId → Nat → Option (List Nat) := liveT [(106, 2, [0, 2, 4, 10, 11]), (106, 1000002, [0, 2, 4, 10]), (106, 2000002, [])]
def M_slices_rotateCmpFunc_Count : FuncId → Bool := fun f => f == 120
noncomputable def rd_slices_rotateCmpFunc_Count_106_2 : List U → Rt
  | [.i v0, .i v1, .i v2, .l v3] =>
    (.test (v1 != v2)
    (.test (decide (v1 > v2))
    (let r0 : Rs := (Rt.res (m_slices_swapRangeCmpFunc_Count [U.i (w64 (v0 - v1)), U.i v0, U.i v2, U.l v3]))
    (.test (ok r0 0)
    (.next [.i v0, .i (w64 (v1 - v2)), .i v2, .l (uL (out r0 0) 0)])
    .fail))
    (let r1 : Rs := (Rt.res (m_slices_swapRangeCmpFunc_Count [U.i (w64 (v0 - v1)), U.i (w64 (w64 (v0 + v2) - v1)), U.i v1, U.l v3]))
    (.test (ok r1 0)
    (.next [.i v0, .i v1, .i (w64 (v2 - v1)), .l (uL (out r1 0) 0)])
    .fail)))
    (.stop 0 [.i v0, .i v1, .l v3]))
  | _ => .fail
def sp_slices_rotateCmpFunc_Count_106_2 : LSp := ⟨58, ⟨[(0, .one (.all 0)), (2, .one (.i .i64)), (4, .fn 63 []), (10, .one (.i .i64)), (11, .one (.i .i64))], [.arr 54 true]⟩, [(.exit 0, ⟨[(0, .one (.all 0)), (2, .one (.i .i64)), (4, .fn 63 []), (10, .one (.i .i64))], [.arr 54 true]⟩)]⟩
set_option maxRecDepth 100000 in
theorem rq_slices_rotateCmpFunc_Count_106_2 (v0 : Int) (v1 : Int) (v2 : Int) (v3 : List (List PV)) : runK br Tryz.prog (callK br Tryz.prog X7 M_slices_rotateCmpFunc_Count L_slices_rotateCmpFunc_Count (lsT []) 40) M_slices_rotateCmpFunc_Count (lsT [] 106 1) 40 1 (L_slices_rotateCmpFunc_Count 106) (bodyOf Tryz.prog 106 2) (sp_slices_rotateCmpFunc_Count_106_2.s.ts sp_slices_rotateCmpFunc_Count_106_2.n [.i v0, .i v1, .i v2, .l v3]) (sp_slices_rotateCmpFunc_Count_106_2.s.h [.i v0, .i v1, .i v2, .l v3]) (idc Tryz.prog 1 (L_slices_rotateCmpFunc_Count 106) 2) =
    (rd_slices_rotateCmpFunc_Count_106_2 [.i v0, .i v1, .i v2, .l v3]).go br (fun us' => some (.normal, sp_slices_rotateCmpFunc_Count_106_2.s.ts sp_slices_rotateCmpFunc_Count_106_2.n us', sp_slices_rotateCmpFunc_Count_106_2.s.h us')) sp_slices_rotateCmpFunc_Count_106_2.fin := by
  rw [← callF_eq, ← runF_eq]; kernel_rfl
theorem lo_slices_rotateCmpFunc_Count_106_2 {R : Type} : LoopTells Tryz.prog X7 M_slices_rotateCmpFunc_Count L_slices_rotateCmpFunc_Count 1 (L_slices_rotateCmpFunc_Count 106) (bodyOf Tryz.prog 106 2) (gL (R := R) sp_slices_rotateCmpFunc_Count_106_2 rd_slices_rotateCmpFunc_Count_106_2 br) :=
  loopTold (callK_ev (loopsOK_list rids noneIn) 40) (lsokIn (loopsOK_list rids noneIn) 106 1 2) (by kernel_rfl) sp_slices_rotateCmpFunc_Count_106_2 rd_slices_rotateCmpFunc_Count_106_2 rfl (by kernel_rfl) (by
    intro us v h; unfold rd_slices_rotateCmpFunc_Count_106_2 at h; split at h
    · rename_i v0 v1 v2 v3; exact rq_slices_rotateCmpFunc_Count_106_2 v0 v1 v2 v3
    · cases h)
noncomputable abbrev ll_slices_rotateCmpFunc_Count_106_2 {R : Type} : List (Nat × Nat × Nat × Smy R) := (106, 1, 2, gL sp_slices_rotateCmpFunc_Count_106_2 rd_slices_rotateCmpFunc_Count_106_2 br) :: []
theorem lk_slices_rotateCmpFunc_Count_106_2 {R : Type} : ∀ e ∈ ll_slices_rotateCmpFunc_Count_106_2 (R := R), LoopTells Tryz.prog X7 M_slices_rotateCmpFunc_Count L_slices_rotateCmpFunc_Count e.2.1 (L_slices_rotateCmpFunc_Count e.1) (bodyOf Tryz.prog e.1 e.2.2.1) e.2.2.2 := List.forall_mem_cons.2 ⟨lo_slices_rotateCmpFunc_Count_106_2, noneIn⟩
def S_slices_rotateCmpFunc_Count : FSp := ⟨[.one (.all 0), .one (.i .i64), .one (.i .i64), .one (.i .i64), .fn 63 []], [.arr 54 true], [], [([], [.arr 54 true])]⟩
noncomputable def m_slices_rotateCmpFunc_Count : List U → Rt
  | [.i v0, .i v1, .i v2, .l v3] =>
    (let r0 : Rs := (lres rd_slices_rotateCmpFunc_Count_106_2 [U.i v1, U.i (w64 (v1 - v0)), U.i (w64 (v2 - v1)), U.l v3])
    (.test (ok r0 0)
    (let r1 : Rs := (Rt.res (m_slices_swapRangeCmpFunc_Count [U.i (w64 (uI (out r0 0) 0 - uI (out r0 0) 1)), U.i (uI (out r0 0) 0), U.i (uI (out r0 0) 1), U.l (uL (out r0 0) 2)]))
    (.test (ok r1 0)
    (.stop 0 [.l (uL (out r1 0) 0)])
    .fail))
    .fail))
  | _ => .fail
set_option maxRecDepth 100000 in
theorem q_slices_rotateCmpFunc_Count (v0 : Int) (v1 : Int) (v2 : Int) (v3 : List (List PV)) : callK br Tryz.prog X7 M_slices_rotateCmpFunc_Count L_slices_rotateCmpFunc_Count (lsT ll_slices_rotateCmpFunc_Count_106_2) 60 106 (encs [.i v0, .i v1, .i v2, .l v3] 0 S_slices_rotateCmpFunc_Count.ap) (encH [.i v0, .i v1, .i v2, .l v3] (ws S_slices_rotateCmpFunc_Count.ap) S_slices_rotateCmpFunc_Count.ah) (fun y => fixR Tryz.prog S_slices_rotateCmpFunc_Count.plan S_slices_rotateCmpFunc_Count.ah.length y) =
    (m_slices_rotateCmpFunc_Count [.i v0, .i v1, .i v2, .l v3]).go br (fun _ => none) S_slices_rotateCmpFunc_Count.fin := by
  rw [← callF_eq]; kernel_rfl
theorem e_slices_rotateCmpFunc_Count : EOK Tryz.prog 106 (gF S_slices_rotateCmpFunc_Count m_slices_rotateCmpFunc_Count) :=
  eokTold mixed named x7 (loopsOK_list rids lk_slices_rotateCmpFunc_Count_106_2) 60 S_slices_rotateCmpFunc_Count m_slices_rotateCmpFunc_Count (by
    intro us v h; unfold m_slices_rotateCmpFunc_Count at h; split at h
    · rename_i v0 v1 v2 v3; exact q_slices_rotateCmpFunc_Count v0 v1 v2 v3
    · cases h) false
noncomputable abbrev X8 : Ext := extT [(106, (gF S_slices_rotateCmpFunc_Count m_slices_rotateCmpFunc_Count))] X7
theorem x8 : XOK Tryz.prog X8 := xok1 x7 e_slices_rotateCmpFunc_Count

def L_slices_symMergeCmpFunc_Count : FuncId → Nat → Option (List Nat) := liveT [(90, 3, [0, 1, 4, 10, 11]), (90, 1000003, [0, 1, 10]), (90, 2000003, []), (90, 9, [0, 10, 13]), (90, 1000009, []), (90, 2000009, []), (90, 15, [0, 2, 4, 14, 15]), (90, 1000015, [0, 2, 14]), (90, 2000015, []), (90, 21, [0, 14, 17]), (90, 1000021, []), (90, 2000021, []), (90, 33, [0, 1, 2, 3, 4, 18, 19, 20, 21, 22]), (90, 1000033, [0, 1, 2, 3, 4, 18, 19, 20]), (90, 2000033, [])]
def M_slices_symMergeCmpFunc_Count : FuncId → Bool := fun f => f == 90 || f == 106
def S_slices_symMergeCmpFunc_Count : FSp := ⟨[.one (.all 0), .one (.i .i64), .one (.i .i64), .one (.i .i64), .fn 63 []], [.arr 54 true], [], [([], [.arr 54 true])]⟩
noncomputable def rd_slices_symMergeCmpFunc_Count_90_3 : List U → Rt
  | [.i v0, .i v1, .i v2, .l v3] =>
    (.test (decide (v1 < v2))
    (.test (inR (w64 (Int.fdiv (IntKind.wrap IntKind.u64 (w64 (v1 + v2))) (2 : Int))) (ln v3))
    (.test (decide (Int.toNat (w64 (Int.fdiv (IntKind.wrap IntKind.u64 (w64 (v1 + v2))) (2 : Int))) < List.length v3))
    (.test (inR v0 (ln v3))
    (.test (decide (Int.toNat v0 < List.length v3))
    (let r0 : Rs := (Rt.res (m_row_Compare [U.l (cL (el v3 (w64 (Int.fdiv (IntKind.wrap IntKind.u64 (w64 (v1 + v2))) (2 : Int)))) 0), U.l (cL (el v3 v0) 0)]))
    (.test (ok r0 0)
    (.test (decide (uI (out r0 0) 0 < (0 : Int)))
    (.next [.i v0, .i (w64 (w64 (Int.fdiv (IntKind.wrap IntKind.u64 (w64 (v1 + v2))) (2 : Int)) + (1 : Int))), .i v2, .l v3])
    (.next [.i v0, .i v1, .i (w64 (Int.fdiv (IntKind.wrap IntKind.u64 (w64 (v1 + v2))) (2 : Int))), .l v3]))
    .fail))
    .fail)
    .fail)
    .fail)
    .fail)
    (.stop 0 [.i v0, .i v1, .l v3]))
  | _ => .fail
def sp_slices_symMergeCmpFunc_Count_90_3 : LSp := ⟨220, ⟨[(0, .one (.all 0)), (1, .one (.i .i64)), (4, .fn 63 []), (10, .one (.i .i64)), (11, .one (.i .i64))], [.arr 54 true]⟩, [(.exit 0, ⟨[(0, .one (.all 0)), (1, .one (.i .i64)), (10, .one (.i .i64))], [.arr 54 true]⟩)]⟩
set_option maxRecDepth 100000 in
theorem rq_slices_symMergeCmpFunc_Count_90_3 (mr : List U → Rt) (v0 : Int) (v1 : Int) (v2 : Int) (v3 : List (List PV)) : runK br Tryz.prog (callK br Tryz.prog (extT [(90, gF S_slices_symMergeCmpFunc_Count mr)] X8) M_slices_symMergeCmpFunc_Count L_slices_symMergeCmpFunc_Count (lsT []) 40) M_slices_symMergeCmpFunc_Count (lsT [] 90 1) 40 1 (L_slices_symMergeCmpFunc_Count 90) (bodyOf Tryz.prog 90 3) (sp_slices_symMergeCmpFunc_Count_90_3.s.ts sp_slices_symMergeCmpFunc_Count_90_3.n [.i v0, .i v1, .i v2, .l v3]) (sp_slices_symMergeCmpFunc_Count_90_3.s.h [.i v0, .i v1, .i v2, .l v3]) (idc Tryz.prog 1 (L_slices_symMergeCmpFunc_Count 90) 3) =
    (rd_slices_symMergeCmpFunc_Count_90_3 [.i v0, .i v1, .i v2, .l v3]).go br (fun us' => some (.normal, sp_slices_symMergeCmpFunc_Count_90_3.s.ts sp_slices_symMergeCmpFunc_Count_90_3.n us', sp_slices_symMergeCmpFunc_Count_90_3.s.h us')) sp_slices_symMergeCmpFunc_Count_90_3.fin := by
  rw [← callF_eq, ← runF_eq]; kernel_rfl
theorem lo_slices_symMergeCmpFunc_Count_90_3 {R : Type} (mr : List U → Rt) : LoopTells Tryz.prog (extT [(90, gF S_slices_symMergeCmpFunc_Count mr)] X8) M_slices_symMergeCmpFunc_Count L_slices_symMergeCmpFunc_Count 1 (L_slices_symMergeCmpFunc_Count 90) (bodyOf Tryz.prog 90 3) (gL (R := R) sp_slices_symMergeCmpFunc_Count_90_3 rd_slices_symMergeCmpFunc_Count_90_3 br) :=
  loopTold (callK_ev (loopsOK_list rids noneIn) 40) (lsokIn (loopsOK_list rids noneIn) 90 1 3) (by kernel_rfl) sp_slices_symMergeCmpFunc_Count_90_3 rd_slices_symMergeCmpFunc_Count_90_3 rfl (by kernel_rfl) (by
    intro us v h; unfold rd_slices_symMergeCmpFunc_Count_90_3 at h; split at h
    · rename_i v0 v1 v2 v3; exact rq_slices_symMergeCmpFunc_Count_90_3 mr v0 v1 v2 v3
    · cases h)
noncomputable abbrev ll_slices_symMergeCmpFunc_Count_90_3 {R : Type} : List (Nat × Nat × Nat × Smy R) := (90, 1, 3, gL sp_slices_symMergeCmpFunc_Count_90_3 rd_slices_symMergeCmpFunc_Count_90_3 br) :: []
theorem lk_slices_symMergeCmpFunc_Count_90_3 {R : Type} (mr : List U → Rt) : ∀ e ∈ ll_slices_symMergeCmpFunc_Count_90_3 (R := R), LoopTells Tryz.prog (extT [(90, gF S_slices_symMergeCmpFunc_Count mr)] X8) M_slices_symMergeCmpFunc_Count L_slices_symMergeCmpFunc_Count e.2.1 (L_slices_symMergeCmpFunc_Count e.1) (bodyOf Tryz.prog e.1 e.2.2.1) e.2.2.2 := List.forall_mem_cons.2 ⟨lo_slices_symMergeCmpFunc_Count_90_3 mr, noneIn⟩
noncomputable def rd_slices_symMergeCmpFunc_Count_90_9 : List U → Rt
  | [.i v0, .i v1, .l v2] =>
    (.test (decide (v1 < w64 (v0 - (1 : Int))))
    (.test (inR (w64 (v1 + (1 : Int))) (ln v2))
    (.test (decide (Int.toNat (w64 (v1 + (1 : Int))) < List.length v2))
    (.test (inR v1 (ln v2))
    (.test (decide (Int.toNat v1 < List.length v2))
    (.test (inR v1 (ln v2))
    (.test (decide (Int.toNat v1 < List.length v2))
    (.test (inR (w64 (v1 + (1 : Int))) (ln (List.set v2 (Int.toNat v1) (setCells (el v2 v1) 0 [PV.lst 56 (cL (el v2 (w64 (v1 + (1 : Int)))) 0), pI (cI (el v2 (w64 (v1 + (1 : Int)))) 1)]))))
    (.test (decide (Int.toNat (w64 (v1 + (1 : Int))) < List.length (List.set v2 (Int.toNat v1) (setCells (el v2 v1) 0 [PV.lst 56 (cL (el v2 (w64 (v1 + (1 : Int)))) 0), pI (cI (el v2 (w64 (v1 + (1 : Int)))) 1)]))))
    (.next [.i v0, .i (w64 (v1 + (1 : Int))), .l (List.set (List.set v2 (Int.toNat v1) (setCells (el v2 v1) 0 [PV.lst 56 (cL (el v2 (w64 (v1 + (1 : Int)))) 0), pI (cI (el v2 (w64 (v1 + (1 : Int)))) 1)])) (Int.toNat (w64 (v1 + (1 : Int)))) (setCells (el (List.set v2 (Int.toNat v1) (setCells (el v2 v1) 0 [PV.lst 56 (cL (el v2 (w64 (v1 + (1 : Int)))) 0), pI (cI (el v2 (w64 (v1 + (1 : Int)))) 1)])) (w64 (v1 + (1 : Int)))) 0 [PV.lst 56 (cL (el v2 v1) 0), pI (cI (el v2 v1) 1)]))])
    .fail)
    .fail)
    .fail)
    .fail)
    .fail)
    .fail)
    .fail)
    .fail)
    (.stop 0 [.l v2]))
  | _ => .fail
def sp_slices_symMergeCmpFunc_Count_90_9 : LSp := ⟨220, ⟨[(0, .one (.all 0)), (10, .one (.i .i64)), (13, .one (.i .i64))], [.arr 54 true]⟩, [(.exit 2, ⟨[], [.arr 54 true]⟩)]⟩
set_option maxRecDepth 100000 in
theorem rq_slices_symMergeCmpFunc_Count_90_9 (mr : List U → Rt) (v0 : Int) (v1 : Int) (v2 : List (List PV)) : runK br Tryz.prog (callK br Tryz.prog (extT [(90, gF S_slices_symMergeCmpFunc_Count mr)] X8) M_slices_symMergeCmpFunc_Count L_slices_symMergeCmpFunc_Count (lsT ll_slices_symMergeCmpFunc_Count_90_3) 40) M_slices_symMergeCmpFunc_Count (lsT ll_slices_symMergeCmpFunc_Count_90_3 90 1) 40 1 (L_slices_symMergeCmpFunc_Count 90) (bodyOf Tryz.prog 90 9) (sp_slices_symMergeCmpFunc_Count_90_9.s.ts sp_slices_symMergeCmpFunc_Count_90_9.n [.i v0, .i v1, .l v2]) (sp_slices_symMergeCmpFunc_Count_90_9.s.h [.i v0, .i v1, .l v2]) (idc Tryz.prog 1 (L_slices_symMergeCmpFunc_Count 90) 9) =
    (rd_slices_symMergeCmpFunc_Count_90_9 [.i v0, .i v1, .l v2]).go br (fun us' => some (.normal, sp_slices_symMergeCmpFunc_Count_90_9.s.ts sp_slices_symMergeCmpFunc_Count_90_9.n us', sp_slices_symMergeCmpFunc_Count_90_9.s.h us')) sp_slices_symMergeCmpFunc_Count_90_9.fin := by
  rw [← callF_eq, ← runF_eq]; kernel_rfl
theorem lo_slices_symMergeCmpFunc_Count_90_9 {R : Type} (mr : List U → Rt) : LoopTells Tryz.prog (extT [(90, gF S_slices_symMergeCmpFunc_Count mr)] X8) M_slices_symMergeCmpFunc_Count L_slices_symMergeCmpFunc_Count 1 (L_slices_symMergeCmpFunc_Count 90) (bodyOf Tryz.prog 90 9) (gL (R := R) sp_slices_symMergeCmpFunc_Count_90_9 rd_slices_symMergeCmpFunc_Count_90_9 br) :=
  loopTold (callK_ev (loopsOK_list rids (lk_slices_symMergeCmpFunc_Count_90_3 mr)) 40) (lsokIn (loopsOK_list rids (lk_slices_symMergeCmpFunc_Count_90_3 mr)) 90 1 9) (by kernel_rfl) sp_slices_symMergeCmpFunc_Count_90_9 rd_slices_symMergeCmpFunc_Count_90_9 rfl (by kernel_rfl) (by
    intro us v h; unfold rd_slices_symMergeCmpFunc_Count_90_9 at h; split at h
    · rename_i v0 v1 v2; exact rq_slices_symMergeCmpFunc_Count_90_9 mr v0 v1 v2
    · cases h)
noncomputable abbrev ll_slices_symMergeCmpFunc_Count_90_9 {R : Type} : List (Nat × Nat × Nat × Smy R) := (90, 1, 9, gL sp_slices_symMergeCmpFunc_Count_90_9 rd_slices_symMergeCmpFunc_Count_90_9 br) :: ll_slices_symMergeCmpFunc_Count_90_3
theorem lk_slices_symMergeCmpFunc_Count_90_9 {R : Type} (mr : List U → Rt) : ∀ e ∈ ll_slices_symMergeCmpFunc_Count_90_9 (R := R), LoopTells Tryz.prog (extT [(90, gF S_slices_symMergeCmpFunc_Count mr)] X8) M_slices_symMergeCmpFunc_Count L_slices_symMergeCmpFunc_Count e.2.1 (L_slices_symMergeCmpFunc_Count e.1) (bodyOf Tryz.prog e.1 e.2.2.1) e.2.2.2 := List.forall_mem_cons.2 ⟨lo_slices_symMergeCmpFunc_Count_90_9 mr, (lk_slices_symMergeCmpFunc_Count_90_3 mr)⟩
noncomputable def rd_slices_symMergeCmpFunc_Count_90_15 : List U → Rt
  | [.i v0, .i v1, .i v2, .l v3] =>
    (.test (decide (v1 < v2))
    (.test (inR v0 (ln v3))
    (.test (decide (Int.toNat v0 < List.length v3))
    (.test (inR (w64 (Int.fdiv (IntKind.wrap IntKind.u64 (w64 (v1 + v2))) (2 : Int))) (ln v3))
    (.test (decide (Int.toNat (w64 (Int.fdiv (IntKind.wrap IntKind.u64 (w64 (v1 + v2))) (2 : Int))) < List.length v3))
    (let r0 : Rs := (Rt.res (m_row_Compare [U.l (cL (el v3 v0) 0), U.l (cL (el v3 (w64 (Int.fdiv (IntKind.wrap IntKind.u64 (w64 (v1 + v2))) (2 : Int)))) 0)]))
    (.test (ok r0 0)
    (.test (!decide (uI (out r0 0) 0 < (0 : Int)))
    (.next [.i v0, .i (w64 (w64 (Int.fdiv (IntKind.wrap IntKind.u64 (w64 (v1 + v2))) (2 : Int)) + (1 : Int))), .i v2, .l v3])
    (.next [.i v0, .i v1, .i (w64 (Int.fdiv (IntKind.wrap IntKind.u64 (w64 (v1 + v2))) (2 : Int))), .l v3]))
    .fail))
    .fail)
    .fail)
    .fail)
    .fail)
    (.stop 0 [.i v0, .i v1, .l v3]))
  | _ => .fail
def sp_slices_symMergeCmpFunc_Count_90_15 : LSp := ⟨220, ⟨[(0, .one (.all 0)), (2, .one (.i .i64)), (4, .fn 63 []), (14, .one (.i .i64)), (15, .one (.i .i64))], [.arr 54 true]⟩, [(.exit 4, ⟨[(0, .one (.all 0)), (2, .one (.i .i64)), (14, .one (.i .i64))], [.arr 54 true]⟩)]⟩
set_option maxRecDepth 100000 in
theorem rq_slices_symMergeCmpFunc_Count_90_15 (mr : List U → Rt) (v0 : Int) (v1 : Int) (v2 : Int) (v3 : List (List PV)) : runK br Tryz.prog (callK br Tryz.prog (extT [(90, gF S_slices_symMergeCmpFunc_Count mr)] X8) M_slices_symMergeCmpFunc_Count L_slices_symMergeCmpFunc_Count (lsT ll_slices_symMergeCmpFunc_Count_90_9) 40) M_slices_symMergeCmpFunc_Count (lsT ll_slices_symMergeCmpFunc_Count_90_9 90 1) 40 1 (L_slices_symMergeCmpFunc_Count 90) (bodyOf Tryz.prog 90 15) (sp_slices_symMergeCmpFunc_Count_90_15.s.ts sp_slices_symMergeCmpFunc_Count_90_15.n [.i v0, .i v1, .i v2, .l v3]) (sp_slices_symMergeCmpFunc_Count_90_15.s.h [.i v0, .i v1, .i v2, .l v3]) (idc Tryz.prog 1 (L_slices_symMergeCmpFunc_Count 90) 15) =
    (rd_slices_symMergeCmpFunc_Count_90_15 [.i v0, .i v1, .i v2, .l v3]).go br (fun us' => some (.normal, sp_slices_symMergeCmpFunc_Count_90_15.s.ts sp_slices_symMergeCmpFunc_Count_90_15.n us', sp_slices_symMergeCmpFunc_Count_90_15.s.h us')) sp_slices_symMergeCmpFunc_Count_90_15.fin := by
  rw [← callF_eq, ← runF_eq]; kernel_rfl
theorem lo_slices_symMergeCmpFunc_Count_90_15 {R : Type} (mr : List U → Rt) : LoopTells Tryz.prog (extT [(90, gF S_slices_symMergeCmpFunc_Count mr)] X8) M_slices_symMergeCmpFunc_Count L_slices_symMergeCmpFunc_Count 1 (L_slices_symMergeCmpFunc_Count 90) (bodyOf Tryz.prog 90 15) (gL (R := R) sp_slices_symMergeCmpFunc_Count_90_15 rd_slices_symMergeCmpFunc_Count_90_15 br) :=
  loopTold (callK_ev (loopsOK_list rids (lk_slices_symMergeCmpFunc_Count_90_9 mr)) 40) (lsokIn (loopsOK_list rids (lk_slices_symMergeCmpFunc_Count_90_9 mr)) 90 1 15) (by kernel_rfl) sp_slices_symMergeCmpFunc_Count_90_15 rd_slices_symMergeCmpFunc_Count_90_15 rfl (by kernel_rfl) (by
    intro us v h; unfold rd_slices_symMergeCmpFunc_Count_90_15 at h; split at h
    · rename_i v0 v1 v2 v3; exact rq_slices_symMergeCmpFunc_Count_90_15 mr v0 v1 v2 v3
    · cases h)
noncomputable abbrev ll_slices_symMergeCmpFunc_Count_90_15 {R : Type} : List (Nat × Nat × Nat × Smy R) := (90, 1, 15, gL sp_slices_symMergeCmpFunc_Count_90_15 rd_slices_symMergeCmpFunc_Count_90_15 br) :: ll_slices_symMergeCmpFunc_Count_90_9
theorem lk_slices_symMergeCmpFunc_Count_90_15 {R : Type} (mr : List U → Rt) : ∀ e ∈ ll_slices_symMergeCmpFunc_Count_90_15 (R := R), LoopTells Tryz.prog (extT [(90, gF S_slices_symMergeCmpFunc_Count mr)] X8) M_slices_symMergeCmpFunc_Count L_slices_symMergeCmpFunc_Count e.2.1 (L_slices_symMergeCmpFunc_Count e.1) (bodyOf Tryz.prog e.1 e.2.2.1) e.2.2.2 := List.forall_mem_cons.2 ⟨lo_slices_symMergeCmpFunc_Count_90_15 mr, (lk_slices_symMergeCmpFunc_Count_90_9 mr)⟩
noncomputable def rd_slices_symMergeCmpFunc_Count_90_21 : List U → Rt
  | [.i v0, .i v1, .l v2] =>
    (.test (decide (v1 > v0))
    (.test (inR (w64 (v1 - (1 : Int))) (ln v2))
    (.test (decide (Int.toNat (w64 (v1 - (1 : Int))) < List.length v2))
    (.test (inR v1 (ln v2))
    (.test (decide (Int.toNat v1 < List.length v2))
    (.test (inR v1 (ln v2))
    (.test (decide (Int.toNat v1 < List.length v2))
    (.test (inR (w64 (v1 - (1 : Int))) (ln (List.set v2 (Int.toNat v1) (setCells (el v2 v1) 0 [PV.lst 56 (cL (el v2 (w64 (v1 - (1 : Int)))) 0), pI (cI (el v2 (w64 (v1 - (1 : Int)))) 1)]))))
    (.test (decide (Int.toNat (w64 (v1 - (1 : Int))) < List.length (List.set v2 (Int.toNat v1) (setCells (el v2 v1) 0 [PV.lst 56 (cL (el v2 (w64 (v1 - (1 : Int)))) 0), pI (cI (el v2 (w64 (v1 - (1 : Int)))) 1)]))))
    (.next [.i v0, .i (w64 (v1 - (1 : Int))), .l (List.set (List.set v2 (Int.toNat v1) (setCells (el v2 v1) 0 [PV.lst 56 (cL (el v2 (w64 (v1 - (1 : Int)))) 0), pI (cI (el v2 (w64 (v1 - (1 : Int)))) 1)])) (Int.toNat (w64 (v1 - (1 : Int)))) (setCells (el (List.set v2 (Int.toNat v1) (setCells (el v2 v1) 0 [PV.lst 56 (cL (el v2 (w64 (v1 - (1 : Int)))) 0), pI (cI (el v2 (w64 (v1 - (1 : Int)))) 1)])) (w64 (v1 - (1 : Int)))) 0 [PV.lst 56 (cL (el v2 v1) 0), pI (cI (el v2 v1) 1)]))])
    .fail)
    .fail)
    .fail)
    .fail)
    .fail)
    .fail)
    .fail)
    .fail)
    (.stop 0 [.l v2]))
  | _ => .fail
def sp_slices_symMergeCmpFunc_Count_90_21 : LSp := ⟨220, ⟨[(0, .one (.all 0)), (14, .one (.i .i64)), (17, .one (.i .i64))], [.arr 54 true]⟩, [(.exit 6, ⟨[], [.arr 54 true]⟩)]⟩
set_option maxRecDepth 100000 in
theorem rq_slices_symMergeCmpFunc_Count_90_21 (mr : List U → Rt) (v0 : Int) (v1 : Int) (v2 : List (List PV)) : runK br Tryz.prog (callK br Tryz.prog (extT [(90, gF S_slices_symMergeCmpFunc_Count mr)] X8) M_slices_symMergeCmpFunc_Count L_slices_symMergeCmpFunc_Count (lsT ll_slices_symMergeCmpFunc_Count_90_15) 40) M_slices_symMergeCmpFunc_Count (lsT ll_slices_symMergeCmpFunc_Count_90_15 90 1) 40 1 (L_slices_symMergeCmpFunc_Count 90) (bodyOf Tryz.prog 90 21) (sp_slices_symMergeCmpFunc_Count_90_21.s.ts sp_slices_symMergeCmpFunc_Count_90_21.n [.i v0, .i v1, .l v2]) (sp_slices_symMergeCmpFunc_Count_90_21.s.h [.i v0, .i v1, .l v2]) (idc Tryz.prog 1 (L_slices_symMergeCmpFunc_Count 90) 21) =
    (rd_slices_symMergeCmpFunc_Count_90_21 [.i v0, .i v1, .l v2]).go br (fun us' => some (.normal, sp_slices_symMergeCmpFunc_Count_90_21.s.ts sp_slices_symMergeCmpFunc_Count_90_21.n us', sp_slices_symMergeCmpFunc_Count_90_21.s.h us')) sp_slices_symMergeCmpFunc_Count_90_21.fin := by
  rw [← callF_eq, ← runF_eq]; kernel_rfl
theorem lo_slices_symMergeCmpFunc_Count_90_21 {R : Type} (mr : List U → Rt) : LoopTells Tryz.prog (extT [(90, gF S_slices_symMergeCmpFunc_Count mr)] X8) M_slices_symMergeCmpFunc_Count L_slices_symMergeCmpFunc_Count 1 (L_slices_symMergeCmpFunc_Count 90) (bodyOf Tryz.prog 90 21) (gL (R := R) sp_slices_symMergeCmpFunc_Count_90_21 rd_slices_symMergeCmpFunc_Count_90_21 br) :=
  loopTold (callK_ev (loopsOK_list rids (lk_slices_symMergeCmpFunc_Count_90_15 mr)) 40) (lsokIn (loopsOK_list rids (lk_slices_symMergeCmpFunc_Count_90_15 mr)) 90 1 21) (by kernel_rfl) sp_slices_symMergeCmpFunc_Count_90_21 rd_slices_symMergeCmpFunc_Count_90_21 rfl (by kernel_rfl) (by
    intro us v h; unfold rd_slices_symMergeCmpFunc_Count_90_21 at h; split at h
    · rename_i v0 v1 v2; exact rq_slices_symMergeCmpFunc_Count_90_21 mr v0 v1 v2
    · cases h)
noncomputable abbrev ll_slices_symMergeCmpFunc_Count_90_21 {R : Type} : List (Nat × Nat × Nat × Smy R) := (90, 1, 21, gL sp_slices_symMergeCmpFunc_Count_90_21 rd_slices_symMergeCmpFunc_Count_90_21 br) :: ll_slices_symMergeCmpFunc_Count_90_15
theorem lk_slices_symMergeCmpFunc_Count_90_21 {R : Type} (mr : List U → Rt) : ∀ e ∈ ll_slices_symMergeCmpFunc_Count_90_21 (R := R), LoopTells Tryz.prog (extT [(90, gF S_slices_symMergeCmpFunc_Count mr)] X8) M_slices_symMergeCmpFunc_Count L_slices_symMergeCmpFunc_Count e.2.1 (L_slices_symMergeCmpFunc_Count e.1) (bodyOf Tryz.prog e.1 e.2.2.1) e.2.2.2 := List.forall_mem_cons.2 ⟨lo_slices_symMergeCmpFunc_Count_90_21 mr, (lk_slices_symMergeCmpFunc_Count_90_15 mr)⟩
noncomputable def rd_slices_symMergeCmpFunc_Count_90_33 : List U → Rt
  | [.i v0, .i v1, .i v2, .i v3, .i v4, .i v5, .i v6, .i v7, .l v8] =>
    (.test (decide (v5 < v6))
    (.test (inR (w64 (v7 - w64 (Int.fdiv (IntKind.wrap IntKind.u64 (w64 (v5 + v6))) (2 : Int)))) (ln v8))
    (.test (decide (Int.toNat (w64 (v7 - w64 (Int.fdiv (IntKind.wrap IntKind.u64 (w64 (v5 + v6))) (2 : Int)))) < List.length v8))
    (.test (inR (w64 (Int.fdiv (IntKind.wrap IntKind.u64 (w64 (v5 + v6))) (2 : Int))) (ln v8))
    (.test (decide (Int.toNat (w64 (Int.fdiv (IntKind.wrap IntKind.u64 (w64 (v5 + v6))) (2 : Int))) < List.length v8))
    (let r0 : Rs := (Rt.res (m_row_Compare [U.l (cL (el v8 (w64 (v7 - w64 (Int.fdiv (IntKind.wrap IntKind.u64 (w64 (v5 + v6))) (2 : Int))))) 0), U.l (cL (el v8 (w64 (Int.fdiv (IntKind.wrap IntKind.u64 (w64 (v5 + v6))) (2 : Int)))) 0)]))
    (.test (ok r0 0)
    (.test (!decide (uI (out r0 0) 0 < (0 : Int)))
    (.next [.i v0, .i v1, .i v2, .i v3, .i v4, .i (w64 (w64 (Int.fdiv (IntKind.wrap IntKind.u64 (w64 (v5 + v6))) (2 : Int)) + (1 : Int))), .i v6, .i v7, .l v8])
    (.next [.i v0, .i v1, .i v2, .i v3, .i v4, .i v5, .i (w64 (Int.fdiv (IntKind.wrap IntKind.u64 (w64 (v5 + v6))) (2 : Int))), .i v7, .l v8]))
    .fail))
    .fail)
    .fail)
    .fail)
    .fail)
    (.stop 0 [.i v0, .i v1, .i v2, .i v3, .i v4, .i v5, .l v8]))
  | _ => .fail
def sp_slices_symMergeCmpFunc_Count_90_33 : LSp := ⟨220, ⟨[(0, .one (.all 0)), (1, .one (.i .i64)), (2, .one (.i .i64)), (3, .one (.i .i64)), (4, .fn 63 []), (18, .one (.i .i64)), (19, .one (.i .i64)), (20, .one (.i .i64)), (21, .one (.i .i64)), (22, .one (.i .i64))], [.arr 54 true]⟩, [(.exit 8, ⟨[(0, .one (.all 0)), (1, .one (.i .i64)), (2, .one (.i .i64)), (3, .one (.i .i64)), (4, .fn 63 []), (18, .one (.i .i64)), (19, .one (.i .i64)), (20, .one (.i .i64))], [.arr 54 true]⟩)]⟩
set_option maxRecDepth 100000 in
theorem rq_slices_symMergeCmpFunc_Count_90_33 (mr : List U → Rt) (v0 : Int) (v1 : Int) (v2 : Int) (v3 : Int) (v4 : Int) (v5 : Int) (v6 : Int) (v7 : Int) (v8 : List (List PV)) : runK br Tryz.prog (callK br Tryz.prog (extT [(90, gF S_slices_symMergeCmpFunc_Count mr)] X8) M_slices_symMergeCmpFunc_Count L_slices_symMergeCmpFunc_Count (lsT ll_slices_symMergeCmpFunc_Count_90_21) 40) M_slices_symMergeCmpFunc_Count (lsT ll_slices_symMergeCmpFunc_Count_90_21 90 1) 40 1 (L_slices_symMergeCmpFunc_Count 90) (bodyOf Tryz.prog 90 33) (sp_slices_symMergeCmpFunc_Count_90_33.s.ts sp_slices_symMergeCmpFunc_Count_90_33.n [.i v0, .i v1, .i v2, .i v3, .i v4, .i v5, .i v6, .i v7, .l v8]) (sp_slices_symMergeCmpFunc_Count_90_33.s.h [.i v0, .i v1, .i v2, .i v3, .i v4, .i v5, .i v6, .i v7, .l v8]) (idc Tryz.prog 1 (L_slices_symMergeCmpFunc_Count 90) 33) =
    (rd_slices_symMergeCmpFunc_Count_90_33 [.i v0, .i v1, .i v2, .i v3, .i v4, .i v5, .i v6, .i v7, .l v8]).go br (fun us' => some (.normal, sp_slices_symMergeCmpFunc_Count_90_33.s.ts sp_slices_symMergeCmpFunc_Count_90_33.n us', sp_slices_symMergeCmpFunc_Count_90_33.s.h us')) sp_slices_symMergeCmpFunc_Count_90_33.fin := by
  rw [← callF_eq, ← runF_eq]; kernel_rfl
theorem lo_slices_symMergeCmpFunc_Count_90_33 {R : Type} (mr : List U → Rt) : LoopTells Tryz.prog (extT [(90, gF S_slices_symMergeCmpFunc_Count mr)] X8) M_slices_symMergeCmpFunc_Count L_slices_symMergeCmpFunc_Count 1 (L_slices_symMergeCmpFunc_Count 90) (bodyOf Tryz.prog 90 33) (gL (R := R) sp_slices_symMergeCmpFunc_Count_90_33 rd_slices_symMergeCmpFunc_Count_90_33 br) :=
  loopTold (callK_ev (loopsOK_list rids (lk_slices_symMergeCmpFunc_Count_90_21 mr)) 40) (lsokIn (loopsOK_list rids (lk_slices_symMergeCmpFunc_Count_90_21 mr)) 90 1 33) (by kernel_rfl) sp_slices_symMergeCmpFunc_Count_90_33 rd_slices_symMergeCmpFunc_Count_90_33 rfl (by kernel_rfl) (by
    intro us v h; unfold rd_slices_symMergeCmpFunc_Count_90_33 at h; split at h
    · rename_i v0 v1 v2 v3 v4 v5 v6 v7 v8; exact rq_slices_symMergeCmpFunc_Count_90_33 mr v0 v1 v2 v3 v4 v5 v6 v7 v8
    · cases h)
noncomputable abbrev ll_slices_symMergeCmpFunc_Count_90_33 {R : Type} : List (Nat × Nat × Nat × Smy R) := (90, 1, 33, gL sp_slices_symMergeCmpFunc_Count_90_33 rd_slices_symMergeCmpFunc_Count_90_33 br) :: ll_slices_symMergeCmpFunc_Count_90_21
theorem lk_slices_symMergeCmpFunc_Count_90_33 {R : Type} (mr : List U → Rt) : ∀ e ∈ ll_slices_symMergeCmpFunc_Count_90_33 (R := R), LoopTells Tryz.prog (extT [(90, gF S_slices_symMergeCmpFunc_Count mr)] X8) M_slices_symMergeCmpFunc_Count L_slices_symMergeCmpFunc_Count e.2.1 (L_slices_symMergeCmpFunc_Count e.1) (bodyOf Tryz.prog e.1 e.2.2.1) e.2.2.2 := List.forall_mem_cons.2 ⟨lo_slices_symMergeCmpFunc_Count_90_33 mr, (lk_slices_symMergeCmpFunc_Count_90_21 mr)⟩
noncomputable def s_slices_symMergeCmpFunc_Count (mr : List U → Rt) : List U → Rt
  | [.i v0, .i v1, .i v2, .l v3] =>
    (.test (w64 (v1 - v0) == (1 : Int))
    (let r0 : Rs := (lres rd_slices_symMergeCmpFunc_Count_90_3 [U.i v0, U.i v1, U.i v2, U.l v3])
    (.test (ok r0 0)
    (let r1 : Rs := (lres rd_slices_symMergeCmpFunc_Count_90_9 [U.i (uI (out r0 0) 1), U.i (uI (out r0 0) 0), U.l (uL (out r0 0) 2)])
    (.test (ok r1 0)
    (.stop 0 [.l (uL (out r1 0) 0)])
    .fail))
    .fail))
    (.test (w64 (v2 - v1) == (1 : Int))
    (let r2 : Rs := (lres rd_slices_symMergeCmpFunc_Count_90_15 [U.i v1, U.i v0, U.i v1, U.l v3])
    (.test (ok r2 0)
    (let r3 : Rs := (lres rd_slices_symMergeCmpFunc_Count_90_21 [U.i (uI (out r2 0) 1), U.i (uI (out r2 0) 0), U.l (uL (out r2 0) 2)])
    (.test (ok r3 0)
    (.stop 0 [.l (uL (out r3 0) 0)])
    .fail))
    .fail))
    (.test (decide (v1 > w64 (Int.fdiv (IntKind.wrap IntKind.u64 (w64 (v0 + v2))) (2 : Int))))
    (let r4 : Rs := (lres rd_slices_symMergeCmpFunc_Count_90_33 [U.i v0, U.i v1, U.i v2, U.i (w64 (Int.fdiv (IntKind.wrap IntKind.u64 (w64 (v0 + v2))) (2 : Int))), U.i (w64 (w64 (Int.fdiv (IntKind.wrap IntKind.u64 (w64 (v0 + v2))) (2 : Int)) + v1)), U.i (w64 (w64 (w64 (Int.fdiv (IntKind.wrap IntKind.u64 (w64 (v0 + v2))) (2 : Int)) + v1) - v2)), U.i (w64 (Int.fdiv (IntKind.wrap IntKind.u64 (w64 (v0 + v2))) (2 : Int))), U.i (w64 (w64 (w64 (Int.fdiv (IntKind.wrap IntKind.u64 (w64 (v0 + v2))) (2 : Int)) + v1) - (1 : Int))), U.l v3])
    (.test (ok r4 0)
    (.test (decide (uI (out r4 0) 5 < uI (out r4 0) 1))
    (.test (decide (uI (out r4 0) 1 < w64 (uI (out r4 0) 4 - uI (out r4 0) 5)))
    (let r5 : Rs := (Rt.res (m_slices_rotateCmpFunc_Count [U.i (uI (out r4 0) 5), U.i (uI (out r4 0) 1), U.i (w64 (uI (out r4 0) 4 - uI (out r4 0) 5)), U.l (uL (out r4 0) 6)]))
    (.test (ok r5 0)
    (.test (decide (uI (out r4 0) 0 < uI (out r4 0) 5))
    (.test (decide (uI (out r4 0) 5 < uI (out r4 0) 3))
    (let r6 : Rs := (Rt.res (mr [U.i (uI (out r4 0) 0), U.i (uI (out r4 0) 5), U.i (uI (out r4 0) 3), U.l (uL (out r5 0) 0)]))
    (.test (ok r6 0)
    (.test (decide (uI (out r4 0) 3 < w64 (uI (out r4 0) 4 - uI (out r4 0) 5)))
    (.test (decide (w64 (uI (out r4 0) 4 - uI (out r4 0) 5) < uI (out r4 0) 2))
    (let r7 : Rs := (Rt.res (mr [U.i (uI (out r4 0) 3), U.i (w64 (uI (out r4 0) 4 - uI (out r4 0) 5)), U.i (uI (out r4 0) 2), U.l (uL (out r6 0) 0)]))
    (.test (ok r7 0)
    (.stop 0 [.l (uL (out r7 0) 0)])
    .fail))
    (.stop 0 [.l (uL (out r6 0) 0)]))
    (.stop 0 [.l (uL (out r6 0) 0)]))
    .fail))
    (.test (decide (uI (out r4 0) 3 < w64 (uI (out r4 0) 4 - uI (out r4 0) 5)))
    (.test (decide (w64 (uI (out r4 0) 4 - uI (out r4 0) 5) < uI (out r4 0) 2))
    (let r8 : Rs := (Rt.res (mr [U.i (uI (out r4 0) 3), U.i (w64 (uI (out r4 0) 4 - uI (out r4 0) 5)), U.i (uI (out r4 0) 2), U.l (uL (out r5 0) 0)]))
    (.test (ok r8 0)
    (.stop 0 [.l (uL (out r8 0) 0)])
    .fail))
    (.stop 0 [.l (uL (out r5 0) 0)]))
    (.stop 0 [.l (uL (out r5 0) 0)])))
    (.test (decide (uI (out r4 0) 3 < w64 (uI (out r4 0) 4 - uI (out r4 0) 5)))
    (.test (decide (w64 (uI (out r4 0) 4 - uI (out r4 0) 5) < uI (out r4 0) 2))
    (let r9 : Rs := (Rt.res (mr [U.i (uI (out r4 0) 3), U.i (w64 (uI (out r4 0) 4 - uI (out r4 0) 5)), U.i (uI (out r4 0) 2), U.l (uL (out r5 0) 0)]))
    (.test (ok r9 0)
    (.stop 0 [.l (uL (out r9 0) 0)])
    .fail))
    (.stop 0 [.l (uL (out r5 0) 0)]))
    (.stop 0 [.l (uL (out r5 0) 0)])))
    .fail))
    (.test (decide (uI (out r4 0) 0 < uI (out r4 0) 5))
    (.test (decide (uI (out r4 0) 5 < uI (out r4 0) 3))
    (let r10 : Rs := (Rt.res (mr [U.i (uI (out r4 0) 0), U.i (uI (out r4 0) 5), U.i (uI (out r4 0) 3), U.l (uL (out r4 0) 6)]))
    (.test (ok r10 0)
    (.test (decide (uI (out r4 0) 3 < w64 (uI (out r4 0) 4 - uI (out r4 0) 5)))
    (.test (decide (w64 (uI (out r4 0) 4 - uI (out r4 0) 5) < uI (out r4 0) 2))
    (let r11 : Rs := (Rt.res (mr [U.i (uI (out r4 0) 3), U.i (w64 (uI (out r4 0) 4 - uI (out r4 0) 5)), U.i (uI (out r4 0) 2), U.l (uL (out r10 0) 0)]))
    (.test (ok r11 0)
    (.stop 0 [.l (uL (out r11 0) 0)])
    .fail))
    (.stop 0 [.l (uL (out r10 0) 0)]))
    (.stop 0 [.l (uL (out r10 0) 0)]))
    .fail))
    (.test (decide (uI (out r4 0) 3 < w64 (uI (out r4 0) 4 - uI (out r4 0) 5)))
    (.test (decide (w64 (uI (out r4 0) 4 - uI (out r4 0) 5) < uI (out r4 0) 2))
    (let r12 : Rs := (Rt.res (mr [U.i (uI (out r4 0) 3), U.i (w64 (uI (out r4 0) 4 - uI (out r4 0) 5)), U.i (uI (out r4 0) 2), U.l (uL (out r4 0) 6)]))
    (.test (ok r12 0)
    (.stop 0 [.l (uL (out r12 0) 0)])
    .fail))
    (.stop 0 [.l (uL (out r4 0) 6)]))
    (.stop 0 [.l (uL (out r4 0) 6)])))
    (.test (decide (uI (out r4 0) 3 < w64 (uI (out r4 0) 4 - uI (out r4 0) 5)))
    (.test (decide (w64 (uI (out r4 0) 4 - uI (out r4 0) 5) < uI (out r4 0) 2))
    (let r13 : Rs := (Rt.res (mr [U.i (uI (out r4 0) 3), U.i (w64 (uI (out r4 0) 4 - uI (out r4 0) 5)), U.i (uI (out r4 0) 2), U.l (uL (out r4 0) 6)]))
    (.test (ok r13 0)
    (.stop 0 [.l (uL (out r13 0) 0)])
    .fail))
    (.stop 0 [.l (uL (out r4 0) 6)]))
    (.stop 0 [.l (uL (out r4 0) 6)]))))
    (.test (decide (uI (out r4 0) 0 < uI (out r4 0) 5))
    (.test (decide (uI (out r4 0) 5 < uI (out r4 0) 3))
    (let r14 : Rs := (Rt.res (mr [U.i (uI (out r4 0) 0), U.i (uI (out r4 0) 5), U.i (uI (out r4 0) 3), U.l (uL (out r4 0) 6)]))
    (.test (ok r14 0)
    (.test (decide (uI (out r4 0) 3 < w64 (uI (out r4 0) 4 - uI (out r4 0) 5)))
    (.test (decide (w64 (uI (out r4 0) 4 - uI (out r4 0) 5) < uI (out r4 0) 2))
    (let r15 : Rs := (Rt.res (mr [U.i (uI (out r4 0) 3), U.i (w64 (uI (out r4 0) 4 - uI (out r4 0) 5)), U.i (uI (out r4 0) 2), U.l (uL (out r14 0) 0)]))
    (.test (ok r15 0)
    (.stop 0 [.l (uL (out r15 0) 0)])
    .fail))
    (.stop 0 [.l (uL (out r14 0) 0)]))
    (.stop 0 [.l (uL (out r14 0) 0)]))
    .fail))
    (.test (decide (uI (out r4 0) 3 < w64 (uI (out r4 0) 4 - uI (out r4 0) 5)))
    (.test (decide (w64 (uI (out r4 0) 4 - uI (out r4 0) 5) < uI (out r4 0) 2))
    (let r16 : Rs := (Rt.res (mr [U.i (uI (out r4 0) 3), U.i (w64 (uI (out r4 0) 4 - uI (out r4 0) 5)), U.i (uI (out r4 0) 2), U.l (uL (out r4 0) 6)]))
    (.test (ok r16 0)
    (.stop 0 [.l (uL (out r16 0) 0)])
    .fail))
    (.stop 0 [.l (uL (out r4 0) 6)]))
    (.stop 0 [.l (uL (out r4 0) 6)])))
    (.test (decide (uI (out r4 0) 3 < w64 (uI (out r4 0) 4 - uI (out r4 0) 5)))
    (.test (decide (w64 (uI (out r4 0) 4 - uI (out r4 0) 5) < uI (out r4 0) 2))
    (let r17 : Rs := (Rt.res (mr [U.i (uI (out r4 0) 3), U.i (w64 (uI (out r4 0) 4 - uI (out r4 0) 5)), U.i (uI (out r4 0) 2), U.l (uL (out r4 0) 6)]))
    (.test (ok r17 0)
    (.stop 0 [.l (uL (out r17 0) 0)])
    .fail))
    (.stop 0 [.l (uL (out r4 0) 6)]))
    (.stop 0 [.l (uL (out r4 0) 6)]))))
    .fail))
    (let r18 : Rs := (lres rd_slices_symMergeCmpFunc_Count_90_33 [U.i v0, U.i v1, U.i v2, U.i (w64 (Int.fdiv (IntKind.wrap IntKind.u64 (w64 (v0 + v2))) (2 : Int))), U.i (w64 (w64 (Int.fdiv (IntKind.wrap IntKind.u64 (w64 (v0 + v2))) (2 : Int)) + v1)), U.i v0, U.i v1, U.i (w64 (w64 (w64 (Int.fdiv (IntKind.wrap IntKind.u64 (w64 (v0 + v2))) (2 : Int)) + v1) - (1 : Int))), U.l v3])
    (.test (ok r18 0)
    (.test (decide (uI (out r18 0) 5 < uI (out r18 0) 1))
    (.test (decide (uI (out r18 0) 1 < w64 (uI (out r18 0) 4 - uI (out r18 0) 5)))
    (let r19 : Rs := (Rt.res (m_slices_rotateCmpFunc_Count [U.i (uI (out r18 0) 5), U.i (uI (out r18 0) 1), U.i (w64 (uI (out r18 0) 4 - uI (out r18 0) 5)), U.l (uL (out r18 0) 6)]))
    (.test (ok r19 0)
    (.test (decide (uI (out r18 0) 0 < uI (out r18 0) 5))
    (.test (decide (uI (out r18 0) 5 < uI (out r18 0) 3))
    (let r20 : Rs := (Rt.res (mr [U.i (uI (out r18 0) 0), U.i (uI (out r18 0) 5), U.i (uI (out r18 0) 3), U.l (uL (out r19 0) 0)]))
    (.test (ok r20 0)
    (.test (decide (uI (out r18 0) 3 < w64 (uI (out r18 0) 4 - uI (out r18 0) 5)))
    (.test (decide (w64 (uI (out r18 0) 4 - uI (out r18 0) 5) < uI (out r18 0) 2))
    (let r21 : Rs := (Rt.res (mr [U.i (uI (out r18 0) 3), U.i (w64 (uI (out r18 0) 4 - uI (out r18 0) 5)), U.i (uI (out r18 0) 2), U.l (uL (out r20 0) 0)]))
    (.test (ok r21 0)
    (.stop 0 [.l (uL (out r21 0) 0)])
    .fail))
    (.stop 0 [.l (uL (out r20 0) 0)]))
    (.stop 0 [.l (uL (out r20 0) 0)]))
    .fail))
    (.test (decide (uI (out r18 0) 3 < w64 (uI (out r18 0) 4 - uI (out r18 0) 5)))
    (.test (decide (w64 (uI (out r18 0) 4 - uI (out r18 0) 5) < uI (out r18 0) 2))
    (let r22 : Rs := (Rt.res (mr [U.i (uI (out r18 0) 3), U.i (w64 (uI (out r18 0) 4 - uI (out r18 0) 5)), U.i (uI (out r18 0) 2), U.l (uL (out r19 0) 0)]))
    (.test (ok r22 0)
    (.stop 0 [.l (uL (out r22 0) 0)])
    .fail))
    (.stop 0 [.l (uL (out r19 0) 0)]))
    (.stop 0 [.l (uL (out r19 0) 0)])))
    (.test (decide (uI (out r18 0) 3 < w64 (uI (out r18 0) 4 - uI (out r18 0) 5)))
    (.test (decide (w64 (uI (out r18 0) 4 - uI (out r18 0) 5) < uI (out r18 0) 2))
    (let r23 : Rs := (Rt.res (mr [U.i (uI (out r18 0) 3), U.i (w64 (uI (out r18 0) 4 - uI (out r18 0) 5)), U.i (uI (out r18 0) 2), U.l (uL (out r19 0) 0)]))
    (.test (ok r23 0)
    (.stop 0 [.l (uL (out r23 0) 0)])
    .fail))
    (.stop 0 [.l (uL (out r19 0) 0)]))
    (.stop 0 [.l (uL (out r19 0) 0)])))
    .fail))
    (.test (decide (uI (out r18 0) 0 < uI (out r18 0) 5))
    (.test (decide (uI (out r18 0) 5 < uI (out r18 0) 3))
    (let r24 : Rs := (Rt.res (mr [U.i (uI (out r18 0) 0), U.i (uI (out r18 0) 5), U.i (uI (out r18 0) 3), U.l (uL (out r18 0) 6)]))
    (.test (ok r24 0)
    (.test (decide (uI (out r18 0) 3 < w64 (uI (out r18 0) 4 - uI (out r18 0) 5)))
    (.test (decide (w64 (uI (out r18 0) 4 - uI (out r18 0) 5) < uI (out r18 0) 2))
    (let r25 : Rs := (Rt.res (mr [U.i (uI (out r18 0) 3), U.i (w64 (uI (out r18 0) 4 - uI (out r18 0) 5)), U.i (uI (out r18 0) 2), U.l (uL (out r24 0) 0)]))
    (.test (ok r25 0)
    (.stop 0 [.l (uL (out r25 0) 0)])
    .fail))
    (.stop 0 [.l (uL (out r24 0) 0)]))
    (.stop 0 [.l (uL (out r24 0) 0)]))
    .fail))
    (.test (decide (uI (out r18 0) 3 < w64 (uI (out r18 0) 4 - uI (out r18 0) 5)))
    (.test (decide (w64 (uI (out r18 0) 4 - uI (out r18 0) 5) < uI (out r18 0) 2))
    (let r26 : Rs := (Rt.res (mr [U.i (uI (out r18 0) 3), U.i (w64 (uI (out r18 0) 4 - uI (out r18 0) 5)), U.i (uI (out r18 0) 2), U.l (uL (out r18 0) 6)]))
    (.test (ok r26 0)
    (.stop 0 [.l (uL (out r26 0) 0)])
    .fail))
    (.stop 0 [.l (uL (out r18 0) 6)]))
    (.stop 0 [.l (uL (out r18 0) 6)])))
    (.test (decide (uI (out r18 0) 3 < w64 (uI (out r18 0) 4 - uI (out r18 0) 5)))
    (.test (decide (w64 (uI (out r18 0) 4 - uI (out r18 0) 5) < uI (out r18 0) 2))
    (let r27 : Rs := (Rt.res (mr [U.i (uI (out r18 0) 3), U.i (w64 (uI (out r18 0) 4 - uI (out r18 0) 5)), U.i (uI (out r18 0) 2), U.l (uL (out r18 0) 6)]))
    (.test (ok r27 0)
    (.stop 0 [.l (uL (out r27 0) 0)])
    .fail))
    (.stop 0 [.l (uL (out r18 0) 6)]))
    (.stop 0 [.l (uL (out r18 0) 6)]))))
    (.test (decide (uI (out r18 0) 0 < uI (out r18 0) 5))
    (.test (decide (uI (out r18 0) 5 < uI (out r18 0) 3))
    (let r28 : Rs := (Rt.res (mr [U.i (uI (out r18 0) 0), U.i (uI (out r18 0) 5), U.i (uI (out r18 0) 3), U.l (uL (out r18 0) 6)]))
    (.test (ok r28 0)
    (.test (decide (uI (out r18 0) 3 < w64 (uI (out r18 0) 4 - uI (out r18 0) 5)))
    (.test (decide (w64 (uI (out r18 0) 4 - uI (out r18 0) 5) < uI (out r18 0) 2))
    (let r29 : Rs := (Rt.res (mr [U.i (uI (out r18 0) 3), U.i (w64 (uI (out r18 0) 4 - uI (out r18 0) 5)), U.i (uI (out r18 0) 2), U.l (uL (out r28 0) 0)]))
    (.test (ok r29 0)
    (.stop 0 [.l (uL (out r29 0) 0)])
    .fail))
    (.stop 0 [.l (uL (out r28 0) 0)]))
    (.stop 0 [.l (uL (out r28 0) 0)]))
    .fail))
    (.test (decide (uI (out r18 0) 3 < w64 (uI (out r18 0) 4 - uI (out r18 0) 5)))
    (.test (decide (w64 (uI (out r18 0) 4 - uI (out r18 0) 5) < uI (out r18 0) 2))
    (let r30 : Rs := (Rt.res (mr [U.i (uI (out r18 0) 3), U.i (w64 (uI (out r18 0) 4 - uI (out r18 0) 5)), U.i (uI (out r18 0) 2), U.l (uL (out r18 0) 6)]))
    (.test (ok r30 0)
    (.stop 0 [.l (uL (out r30 0) 0)])
    .fail))
    (.stop 0 [.l (uL (out r18 0) 6)]))
    (.stop 0 [.l (uL (out r18 0) 6)])))
    (.test (decide (uI (out r18 0) 3 < w64 (uI (out r18 0) 4 - uI (out r18 0) 5)))
    (.test (decide (w64 (uI (out r18 0) 4 - uI (out r18 0) 5) < uI (out r18 0) 2))
    (let r31 : Rs := (Rt.res (mr [U.i (uI (out r18 0) 3), U.i (w64 (uI (out r18 0) 4 - uI (out r18 0) 5)), U.i (uI (out r18 0) 2), U.l (uL (out r18 0) 6)]))
    (.test (ok r31 0)
    (.stop 0 [.l (uL (out r31 0) 0)])
    .fail))
    (.stop 0 [.l (uL (out r18 0) 6)]))
    (.stop 0 [.l (uL (out r18 0) 6)]))))
    .fail)))))
  | _ => .fail
noncomputable def m_slices_symMergeCmpFunc_Count : List U → Rt := recM s_slices_symMergeCmpFunc_Count 64
set_option maxRecDepth 100000 in
theorem q_slices_symMergeCmpFunc_Count (mr : List U → Rt) (v0 : Int) (v1 : Int) (v2 : Int) (v3 : List (List PV)) : callKB br Tryz.prog (extT [(90, gF S_slices_symMergeCmpFunc_Count mr)] X8) M_slices_symMergeCmpFunc_Count L_slices_symMergeCmpFunc_Count (lsT ll_slices_symMergeCmpFunc_Count_90_33) 60 90 (encs [.i v0, .i v1, .i v2, .l v3] 0 S_slices_symMergeCmpFunc_Count.ap) (encH [.i v0, .i v1, .i v2, .l v3] (ws S_slices_symMergeCmpFunc_Count.ap) S_slices_symMergeCmpFunc_Count.ah) (fun y => fixR Tryz.prog S_slices_symMergeCmpFunc_Count.plan S_slices_symMergeCmpFunc_Count.ah.length y) =
    (s_slices_symMergeCmpFunc_Count mr [.i v0, .i v1, .i v2, .l v3]).go br (fun _ => none) S_slices_symMergeCmpFunc_Count.fin := by
  rw [← callFB_eq]; kernel_rfl
set_option maxRecDepth 100000 in
theorem es_slices_symMergeCmpFunc_Count (mr : List U → Rt) (hr : EOK Tryz.prog 90 (gF S_slices_symMergeCmpFunc_Count mr)) : EOK Tryz.prog 90 (gF S_slices_symMergeCmpFunc_Count (s_slices_symMergeCmpFunc_Count mr)) :=
  eokToldB mixed named (xok1 x8 hr) (loopsOK_list rids (lk_slices_symMergeCmpFunc_Count_90_33 mr)) 60 S_slices_symMergeCmpFunc_Count (s_slices_symMergeCmpFunc_Count mr) (by
    intro us v h; unfold s_slices_symMergeCmpFunc_Count at h; split at h
    · rename_i v0 v1 v2 v3; exact q_slices_symMergeCmpFunc_Count mr v0 v1 v2 v3
    · cases h)
theorem e_slices_symMergeCmpFunc_Count : EOK Tryz.prog 90 (gF S_slices_symMergeCmpFunc_Count m_slices_symMergeCmpFunc_Count) := eokRec es_slices_symMergeCmpFunc_Count 64
noncomputable abbrev X9 : Ext := extT [(90, (gF S_slices_symMergeCmpFunc_Count m_slices_symMergeCmpFunc_Count))] X8
theorem x9 : XOK Tryz.prog X9 := xok1 x8 e_slices_symMergeCmpFunc_Count

def L_slices_stableCmpFunc_Count : FuncId → Nat → Option (List Nat) := liveT [(78, 2, [0, 1, 2, 6, 7, 8]), (78, 1000002, [0, 1, 2, 6, 7]), (78, 2000002, []), (78, 9, [0, 1, 2, 6, 7, 8]), (78, 1000009, [0, 1, 2, 6, 7]), (78, 2000009, []), (78, 7, [0, 1, 2, 6]), (78, 1000007, []), (78, 2000007, [])]
def M_slices_stableCmpFunc_Count : FuncId → Bool := fun f => f == 90 || f == 89
noncomputable def rd_slices_stableCmpFunc_Count_78_2 : List U → Rt
  | [.i v0, .i v1, .i v2, .i v3, .l v4] =>
    (.test (decide (v3 ≤ v0))
    (let r0 : Rs := (Rt.res (m_slices_insertionSortCmpFunc_Count [U.i v2, U.i v3, U.l v4]))
    (.test (ok r0 0)
    (.next [.i v0, .i v1, .i v3, .i (w64 (v3 + v1)), .l (uL (out r0 0) 0)])
    .fail))
    (.stop 0 [.i v0, .i v1, .i v2, .l v4]))
  | _ => .fail
def sp_slices_stableCmpFunc_Count_78_2 : LSp := ⟨63, ⟨[(0, .one (.all 0)), (1, .one (.i .i64)), (2, .fn 63 []), (6, .one (.i .i64)), (7, .one (.i .i64)), (8, .one (.i .i64))], [.arr 54 true]⟩, [(.exit 0, ⟨[(0, .one (.all 0)), (1, .one (.i .i64)), (2, .fn 63 []), (6, .one (.i .i64)), (7, .one (.i .i64))], [.arr 54 true]⟩)]⟩
set_option maxRecDepth 100000 in
theorem rq_slices_stableCmpFunc_Count_78_2 (v0 : Int) (v1 : Int) (v2 : Int) (v3 : Int) (v4 : List (List PV)) : runK br Tryz.prog (callK br Tryz.prog X9 M_slices_stableCmpFunc_Count L_slices_stableCmpFunc_Count (lsT []) 40) M_slices_stableCmpFunc_Count (lsT [] 78 1) 40 1 (L_slices_stableCmpFunc_Count 78) (bodyOf Tryz.prog 78 2) (sp_slices_stableCmpFunc_Count_78_2.s.ts sp_slices_stableCmpFunc_Count_78_2.n [.i v0, .i v1, .i v2, .i v3, .l v4]) (sp_slices_stableCmpFunc_Count_78_2.s.h [.i v0, .i v1, .i v2, .i v3, .l v4]) (idc Tryz.prog 1 (L_slices_stableCmpFunc_Count 78) 2) =
    (rd_slices_stableCmpFunc_Count_78_2 [.i v0, .i v1, .i v2, .i v3, .l v4]).go br (fun us' => some (.normal, sp_slices_stableCmpFunc_Count_78_2.s.ts sp_slices_stableCmpFunc_Count_78_2.n us', sp_slices_stableCmpFunc_Count_78_2.s.h us')) sp_slices_stableCmpFunc_Count_78_2.fin := by
  rw [← callF_eq, ← runF_eq]; kernel_rfl
theorem lo_slices_stableCmpFunc_Count_78_2 {R : Type} : LoopTells Tryz.prog X9 M_slices_stableCmpFunc_Count L_slices_stableCmpFunc_Count 1 (L_slices_stableCmpFunc_Count 78) (bodyOf Tryz.prog 78 2) (gL (R := R) sp_slices_stableCmpFunc_Count_78_2 rd_slices_stableCmpFunc_Count_78_2 br) :=
  loopTold (callK_ev (loopsOK_list rids noneIn) 40) (lsokIn (loopsOK_list rids noneIn) 78 1 2) (by kernel_rfl) sp_slices_stableCmpFunc_Count_78_2 rd_slices_stableCmpFunc_Count_78_2 rfl (by kernel_rfl) (by
    intro us v h; unfold rd_slices_stableCmpFunc_Count_78_2 at h; split at h
    · rename_i v0 v1 v2 v3 v4; exact rq_slices_stableCmpFunc_Count_78_2 v0 v1 v2 v3 v4
    · cases h)
noncomputable abbrev ll_slices_stableCmpFunc_Count_78_2 {R : Type} : List (Nat × Nat × Nat × Smy R) := (78, 1, 2, gL sp_slices_stableCmpFunc_Count_78_2 rd_slices_stableCmpFunc_Count_78_2 br) :: []
theorem lk_slices_stableCmpFunc_Count_78_2 {R : Type} : ∀ e ∈ ll_slices_stableCmpFunc_Count_78_2 (R := R), LoopTells Tryz.prog X9 M_slices_stableCmpFunc_Count L_slices_stableCmpFunc_Count e.2.1 (L_slices_stableCmpFunc_Count e.1) (bodyOf Tryz.prog e.1 e.2.2.1) e.2.2.2 := List.forall_mem_cons.2 ⟨lo_slices_stableCmpFunc_Count_78_2, noneIn⟩
noncomputable def rd_slices_stableCmpFunc_Count_78_9 : List U → Rt
  | [.i v0, .i v1, .i v2, .i v3, .l v4] =>
    (.test (decide (v3 ≤ v0))
    (let r0 : Rs := (Rt.res (m_slices_symMergeCmpFunc_Count [U.i v2, U.i (w64 (v2 + v1)), U.i v3, U.l v4]))
    (.test (ok r0 0)
    (.next [.i v0, .i v1, .i v3, .i (w64 (v3 + w64 ((2 : Int) * v1))), .l (uL (out r0 0) 0)])
    .fail))
    (.stop 0 [.i v0, .i v1, .i v2, .l v4]))
  | _ => .fail
def sp_slices_stableCmpFunc_Count_78_9 : LSp := ⟨63, ⟨[(0, .one (.all 0)), (1, .one (.i .i64)), (2, .fn 63 []), (6, .one (.i .i64)), (7, .one (.i .i64)), (8, .one (.i .i64))], [.arr 54 true]⟩, [(.exit 4, ⟨[(0, .one (.all 0)), (1, .one (.i .i64)), (2, .fn 63 []), (6, .one (.i .i64)), (7, .one (.i .i64))], [.arr 54 true]⟩)]⟩
set_option maxRecDepth 100000 in
theorem rq_slices_stableCmpFunc_Count_78_9 (v0 : Int) (v1 : Int) (v2 : Int) (v3 : Int) (v4 : List (List PV)) : runK br Tryz.prog (callK br Tryz.prog X9 M_slices_stableCmpFunc_Count L_slices_stableCmpFunc_Count (lsT ll_slices_stableCmpFunc_Count_78_2) 40) M_slices_stableCmpFunc_Count (lsT ll_slices_stableCmpFunc_Count_78_2 78 1) 40 1 (L_slices_stableCmpFunc_Count 78) (bodyOf Tryz.prog 78 9) (sp_slices_stableCmpFunc_Count_78_9.s.ts sp_slices_stableCmpFunc_Count_78_9.n [.i v0, .i v1, .i v2, .i v3, .l v4]) (sp_slices_stableCmpFunc_Count_78_9.s.h [.i v0, .i v1, .i v2, .i v3, .l v4]) (idc Tryz.prog 1 (L_slices_stableCmpFunc_Count 78) 9) =
    (rd_slices_stableCmpFunc_Count_78_9 [.i v0, .i v1, .i v2, .i v3, .l v4]).go br (fun us' => some (.normal, sp_slices_stableCmpFunc_Count_78_9.s.ts sp_slices_stableCmpFunc_Count_78_9.n us', sp_slices_stableCmpFunc_Count_78_9.s.h us')) sp_slices_stableCmpFunc_Count_78_9.fin := by
  rw [← callF_eq, ← runF_eq]; kernel_rfl
theorem lo_slices_stableCmpFunc_Count_78_9 {R : Type} : LoopTells Tryz.prog X9 M_slices_stableCmpFunc_Count L_slices_stableCmpFunc_Count 1 (L_slices_stableCmpFunc_Count 78) (bodyOf Tryz.prog 78 9) (gL (R := R) sp_slices_stableCmpFunc_Count_78_9 rd_slices_stableCmpFunc_Count_78_9 br) :=
  loopTold (callK_ev (loopsOK_list rids lk_slices_stableCmpFunc_Count_78_2) 40) (lsokIn (loopsOK_list rids lk_slices_stableCmpFunc_Count_78_2) 78 1 9) (by kernel_rfl) sp_slices_stableCmpFunc_Count_78_9 rd_slices_stableCmpFunc_Count_78_9 rfl (by kernel_rfl) (by
    intro us v h; unfold rd_slices_stableCmpFunc_Count_78_9 at h; split at h
    · rename_i v0 v1 v2 v3 v4; exact rq_slices_stableCmpFunc_Count_78_9 v0 v1 v2 v3 v4
    · cases h)
noncomputable abbrev ll_slices_stableCmpFunc_Count_78_9 {R : Type} : List (Nat × Nat × Nat × Smy R) := (78, 1, 9, gL sp_slices_stableCmpFunc_Count_78_9 rd_slices_stableCmpFunc_Count_78_9 br) :: ll_slices_stableCmpFunc_Count_78_2
theorem lk_slices_stableCmpFunc_Count_78_9 {R : Type} : ∀ e ∈ ll_slices_stableCmpFunc_Count_78_9 (R := R), LoopTells Tryz.prog X9 M_slices_stableCmpFunc_Count L_slices_stableCmpFunc_Count e.2.1 (L_slices_stableCmpFunc_Count e.1) (bodyOf Tryz.prog e.1 e.2.2.1) e.2.2.2 := List.forall_mem_cons.2 ⟨lo_slices_stableCmpFunc_Count_78_9, lk_slices_stableCmpFunc_Count_78_2⟩
noncomputable def rd_slices_stableCmpFunc_Count_78_7 : List U → Rt
  | [.i v0, .i v1, .l v2] =>
    (.test (decide (v1 < v0))
    (let r0 : Rs := (lres rd_slices_stableCmpFunc_Count_78_9 [U.i v0, U.i v1, U.i (0 : Int), U.i (w64 ((2 : Int) * v1)), U.l v2])
    (.test (ok r0 0)
    (.test (decide (w64 (uI (out r0 0) 2 + uI (out r0 0) 1) < uI (out r0 0) 0))
    (let r1 : Rs := (Rt.res (m_slices_symMergeCmpFunc_Count [U.i (uI (out r0 0) 2), U.i (w64 (uI (out r0 0) 2 + uI (out r0 0) 1)), U.i (uI (out r0 0) 0), U.l (uL (out r0 0) 3)]))
    (.test (ok r1 0)
    (.next [.i (uI (out r0 0) 0), .i (w64 (uI (out r0 0) 1 * (2 : Int))), .l (uL (out r1 0) 0)])
    .fail))
    (.next [.i (uI (out r0 0) 0), .i (w64 (uI (out r0 0) 1 * (2 : Int))), .l (uL (out r0 0) 3)]))
    .fail))
    (.stop 0 [.l v2]))
  | _ => .fail
def sp_slices_stableCmpFunc_Count_78_7 : LSp := ⟨63, ⟨[(0, .one (.all 0)), (1, .one (.i .i64)), (2, .fn 63 []), (6, .one (.i .i64))], [.arr 54 true]⟩, [(.exit 2, ⟨[], [.arr 54 true]⟩)]⟩
set_option maxRecDepth 100000 in
theorem rq_slices_stableCmpFunc_Count_78_7 (v0 : Int) (v1 : Int) (v2 : List (List PV)) : runK br Tryz.prog (callK br Tryz.prog X9 M_slices_stableCmpFunc_Count L_slices_stableCmpFunc_Count (lsT ll_slices_stableCmpFunc_Count_78_9) 40) M_slices_stableCmpFunc_Count (lsT ll_slices_stableCmpFunc_Count_78_9 78 1) 40 1 (L_slices_stableCmpFunc_Count 78) (bodyOf Tryz.prog 78 7) (sp_slices_stableCmpFunc_Count_78_7.s.ts sp_slices_stableCmpFunc_Count_78_7.n [.i v0, .i v1, .l v2]) (sp_slices_stableCmpFunc_Count_78_7.s.h [.i v0, .i v1, .l v2]) (idc Tryz.prog 1 (L_slices_stableCmpFunc_Count 78) 7) =
    (rd_slices_stableCmpFunc_Count_78_7 [.i v0, .i v1, .l v2]).go br (fun us' => some (.normal, sp_slices_stableCmpFunc_Count_78_7.s.ts sp_slices_stableCmpFunc_Count_78_7.n us', sp_slices_stableCmpFunc_Count_78_7.s.h us')) sp_slices_stableCmpFunc_Count_78_7.fin := by
  rw [← callF_eq, ← runF_eq]; kernel_rfl
theorem lo_slices_stableCmpFunc_Count_78_7 {R : Type} : LoopTells Tryz.prog X9 M_slices_stableCmpFunc_Count L_slices_stableCmpFunc_Count 1 (L_slices_stableCmpFunc_Count 78) (bodyOf Tryz.prog 78 7) (gL (R := R) sp_slices_stableCmpFunc_Count_78_7 rd_slices_stableCmpFunc_Count_78_7 br) :=
  loopTold (callK_ev (loopsOK_list rids lk_slices_stableCmpFunc_Count_78_9) 40) (lsokIn (loopsOK_list rids lk_slices_stableCmpFunc_Count_78_9) 78 1 7) (by kernel_rfl) sp_slices_stableCmpFunc_Count_78_7 rd_slices_stableCmpFunc_Count_78_7 rfl (by kernel_rfl) (by
    intro us v h; unfold rd_slices_stableCmpFunc_Count_78_7 at h; split at h
    · rename_i v0 v1 v2; exact rq_slices_stableCmpFunc_Count_78_7 v0 v1 v2
    · cases h)
noncomputable abbrev ll_slices_stableCmpFunc_Count_78_7 {R : Type} : List (Nat × Nat × Nat × Smy R) := (78, 1, 7, gL sp_slices_stableCmpFunc_Count_78_7 rd_slices_stableCmpFunc_Count_78_7 br) :: ll_slices_stableCmpFunc_Count_78_9
theorem lk_slices_stableCmpFunc_Count_78_7 {R : Type} : ∀ e ∈ ll_slices_stableCmpFunc_Count_78_7 (R := R), LoopTells Tryz.prog X9 M_slices_stableCmpFunc_Count L_slices_stableCmpFunc_Count e.2.1 (L_slices_stableCmpFunc_Count e.1) (bodyOf Tryz.prog e.1 e.2.2.1) e.2.2.2 := List.forall_mem_cons.2 ⟨lo_slices_stableCmpFunc_Count_78_7, lk_slices_stableCmpFunc_Count_78_9⟩
def S_slices_stableCmpFunc_Count : FSp := ⟨[.one (.all 0), .one (.i .i64), .fn 63 []], [.arr 54 true], [], [([], [.arr 54 true])]⟩
noncomputable def m_slices_stableCmpFunc_Count : List U → Rt
  | [.i v0, .l v1] =>
    (let r0 : Rs := (lres rd_slices_stableCmpFunc_Count_78_2 [U.i v0, U.i (20 : Int), U.i (0 : Int), U.i (20 : Int), U.l v1])
    (.test (ok r0 0)
    (let r1 : Rs := (Rt.res (m_slices_insertionSortCmpFunc_Count [U.i (uI (out r0 0) 2), U.i (uI (out r0 0) 0), U.l (uL (out r0 0) 3)]))
    (.test (ok r1 0)
    (let r2 : Rs := (lres rd_slices_stableCmpFunc_Count_78_7 [U.i (uI (out r0 0) 0), U.i (uI (out r0 0) 1), U.l (uL (out r1 0) 0)])
    (.test (ok r2 0)
    (.stop 0 [.l (uL (out r2 0) 0)])
    .fail))
    .fail))
    .fail))
  | _ => .fail
set_option maxRecDepth 100000 in
theorem q_slices_stableCmpFunc_Count (v0 : Int) (v1 : List (List PV)) : callK br Tryz.prog X9 M_slices_stableCmpFunc_Count L_slices_stableCmpFunc_Count (lsT ll_slices_stableCmpFunc_Count_78_7) 60 78 (encs [.i v0, .l v1] 0 S_slices_stableCmpFunc_Count.ap) (encH [.i v0, .l v1] (ws S_slices_stableCmpFunc_Count.ap) S_slices_stableCmpFunc_Count.ah) (fun y => fixR Tryz.prog S_slices_stableCmpFunc_Count.plan S_slices_stableCmpFunc_Count.ah.length y) =
    (m_slices_stableCmpFunc_Count [.i v0, .l v1]).go br (fun _ => none) S_slices_stableCmpFunc_Count.fin := by
  rw [← callF_eq]; kernel_rfl
theorem e_slices_stableCmpFunc_Count : EOK Tryz.prog 78 (gF S_slices_stableCmpFunc_Count m_slices_stableCmpFunc_Count) :=
  eokTold mixed named x9 (loopsOK_list rids lk_slices_stableCmpFunc_Count_78_7) 60 S_slices_stableCmpFunc_Count m_slices_stableCmpFunc_Count (by
    intro us v h; unfold m_slices_stableCmpFunc_Count at h; split at h
    · rename_i v0 v1; exact q_slices_stableCmpFunc_Count v0 v1
    · cases h) false
noncomputable abbrev X10 : Ext := extT [(78, (gF S_slices_stableCmpFunc_Count m_slices_stableCmpFunc_Count))] X9
theorem x10 : XOK Tryz.prog X10 := xok1 x9 e_slices_stableCmpFunc_Count

def L_slices_SortStableFunc_ : FuncId → Nat → Option (List Nat) := liveT []
def M_slices_SortStableFunc_ : FuncId → Bool := fun f => f == 78
def S_slices_SortStableFunc_ : FSp := ⟨[.one (.all 0), .fn 63 []], [.arr 54 true], [], [([], [.arr 54 true])]⟩
noncomputable def m_slices_SortStableFunc_ : List U → Rt
  | [.l v0] =>
    (let r0 : Rs := (Rt.res (m_slices_stableCmpFunc_Count [U.i (ln v0), U.l v0]))
    (.test (ok r0 0)
    (.stop 0 [.l (uL (out r0 0) 0)])
    .fail))
  | _ => .fail
set_option maxRecDepth 100000 in
theorem q_slices_SortStableFunc_ (v0 : List (List PV)) : callK br Tryz.prog X10 M_slices_SortStableFunc_ L_slices_SortStableFunc_ (lsT []) 60 62 (encs [.l v0] 0 S_slices_SortStableFunc_.ap) (encH [.l v0] (ws S_slices_SortStableFunc_.ap) S_slices_SortStableFunc_.ah) (fun y => fixR Tryz.prog S_slices_SortStableFunc_.plan S_slices_SortStableFunc_.ah.length y) =
    (m_slices_SortStableFunc_ [.l v0]).go br (fun _ => none) S_slices_SortStableFunc_.fin := by
  rw [← callF_eq]; kernel_rfl
theorem e_slices_SortStableFunc_ : EOK Tryz.prog 62 (gF S_slices_SortStableFunc_ m_slices_SortStableFunc_) :=
  eokTold mixed named x10 (loopsOK_list rids noneIn) 60 S_slices_SortStableFunc_ m_slices_SortStableFunc_ (by
    intro us v h; unfold m_slices_SortStableFunc_ at h; split at h
    · rename_i v0; exact q_slices_SortStableFunc_ v0
    · cases h) false
noncomputable abbrev X11 : Ext := extT [(62, (gF S_slices_SortStableFunc_ m_slices_SortStableFunc_))] X10
theorem x11 : XOK Tryz.prog X11 := xok1 x10 e_slices_SortStableFunc_

def L_sortNil_Count : FuncId → Nat → Option (List Nat) := liveT []
def M_sortNil_Count : FuncId → Bool := fun f => f == 78 || f == 89
def S_sortNil_Count : FSp := ⟨[.one (.nils), .fn 63 []], [], [], [([], [])]⟩
noncomputable def m_sortNil_Count : List U → Rt
  | [] =>
    (.stop 0 [])
  | _ => .fail
set_option maxRecDepth 100000 in
theorem q_sortNil_Count : callK br Tryz.prog XI M_sortNil_Count L_sortNil_Count (lsT []) 60 62 (encs [] 0 S_sortNil_Count.ap) (encH [] (ws S_sortNil_Count.ap) S_sortNil_Count.ah) (fun y => fixR Tryz.prog S_sortNil_Count.plan S_sortNil_Count.ah.length y) =
    (m_sortNil_Count []).go br (fun _ => none) S_sortNil_Count.fin := by
  rw [← callF_eq]; kernel_rfl
theorem e_sortNil_Count : EOK Tryz.prog 62 (gF S_sortNil_Count m_sortNil_Count) :=
  eokTold mixed named xI (loopsOK_list rids noneIn) 60 S_sortNil_Count m_sortNil_Count (by
    intro us v h; unfold m_sortNil_Count at h; split at h
    · exact q_sortNil_Count
    · cases h) false
noncomputable abbrev X12 : Ext := extT [(62, (gE S_sortNil_Count m_sortNil_Count (gF S_slices_SortStableFunc_ m_slices_SortStableFunc_)))] X11
theorem x12 : XOK Tryz.prog X12 := xok1 x11 (eokE e_sortNil_Count e_slices_SortStableFunc_)

end Go.Proofs.YtikmahlogjcieaaGreat

set_option linter.unusedVariables false
namespace Go.Proofs.YtikmahlogjcieaaGreat
open Go Go.Pu

noncomputable abbrev XJ : Ext := extT [(62, (gE S_sortNil_Count m_sortNil_Count (gF S_slices_SortStableFunc_ m_slices_SortStableFunc_)))] X12
theorem xJ : XOK Tryz.prog XJ := xokT x12 (List.forall_mem_cons.2 ⟨eokE e_sortNil_Count e_slices_SortStableFunc_, fun _ h => nomatch h⟩)

end Go.Proofs.YtikmahlogjcieaaGreat
