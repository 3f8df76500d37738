/- Texts of this seat, one behind the other. -/
import Derived.Test.YthmljoalohpafaaGreatDoorKX
import Derived.Test.YthmljoalohpafaaGreatDoorTE
set_option linter.unusedVariables false
namespace Go.Proofs.YthmljoalohpafaaGreatDoor
open Go Go.Pu

/-- cmp.isNaN[int] -/
def L_cmp_isNaN_int : FuncId → Nat → Option (List Nat) := liveT []
def M_cmp_isNaN_int : FuncId → Bool := fun _ => false
def S_cmp_isNaN_int : FSp := ⟨[.one (.i .i64)], [], [], [([.one (.b)], [])]⟩
noncomputable def m_cmp_isNaN_int : List U → Rt
  | [.i v0] =>
    (.stop 0 [.b (v0 != v0)])
  | _ => .fail
set_option maxRecDepth 100000 in
theorem q_cmp_isNaN_int (v0 : Int) : callK br Tryz.prog XI M_cmp_isNaN_int L_cmp_isNaN_int (lsT []) 60 140 (encs [.i v0] 0 S_cmp_isNaN_int.ap) (encH [.i v0] (ws S_cmp_isNaN_int.ap) S_cmp_isNaN_int.ah) (fun y => fixR Tryz.prog S_cmp_isNaN_int.plan S_cmp_isNaN_int.ah.length y) =
    (m_cmp_isNaN_int [.i v0]).go br (fun _ => none) S_cmp_isNaN_int.fin := by
  rw [← callF_eq]; kernel_rfl
theorem e_cmp_isNaN_int : EOK Tryz.prog 140 (gI S_cmp_isNaN_int m_cmp_isNaN_int) :=
  eokTold mixed named xI (loopsOK_list rids noneIn) 60 S_cmp_isNaN_int m_cmp_isNaN_int (by
    intro us v h; unfold m_cmp_isNaN_int at h; split at h
    · rename_i v0; exact q_cmp_isNaN_int v0
    · cases h) true
noncomputable abbrev X1 : Ext := extT [(140, (gI S_cmp_isNaN_int m_cmp_isNaN_int))] XI
theorem x1 : XOK Tryz.prog X1 := xok1 xI e_cmp_isNaN_int

/-- cmp.Compare[int] -/
def L_cmp_Compare_int : FuncId → Nat → Option (List Nat) := liveT []
def M_cmp_Compare_int : FuncId → Bool := fun _ => false
def S_cmp_Compare_int : FSp := ⟨[.one (.i .i64), .one (.i .i64)], [], [], [([.one (.i .i64)], [])]⟩
noncomputable def m_cmp_Compare_int : List U → Rt
  | [.i v0, .i v1] =>
    (.test (v0 != v0)
    (.test (v1 != v1)
    (.stop 0 [.i ((0 : Int))])
    (.stop 0 [.i ((-1 : Int))]))
    (.test (v1 != v1)
    (.stop 0 [.i ((1 : Int))])
    (.test (decide (v0 < v1))
    (.stop 0 [.i ((-1 : Int))])
    (.test (decide (v0 > v1))
    (.stop 0 [.i ((1 : Int))])
    (.stop 0 [.i ((0 : Int))])))))
  | _ => .fail
set_option maxRecDepth 100000 in
theorem q_cmp_Compare_int (v0 : Int) (v1 : Int) : callK br Tryz.prog X1 M_cmp_Compare_int L_cmp_Compare_int (lsT []) 60 124 (encs [.i v0, .i v1] 0 S_cmp_Compare_int.ap) (encH [.i v0, .i v1] (ws S_cmp_Compare_int.ap) S_cmp_Compare_int.ah) (fun y => fixR Tryz.prog S_cmp_Compare_int.plan S_cmp_Compare_int.ah.length y) =
    (m_cmp_Compare_int [.i v0, .i v1]).go br (fun _ => none) S_cmp_Compare_int.fin := by
  rw [← callF_eq]; kernel_rfl
theorem e_cmp_Compare_int : EOK Tryz.prog 124 (gF S_cmp_Compare_int m_cmp_Compare_int) :=
  eokTold mixed named x1 (loopsOK_list rids noneIn) 60 S_cmp_Compare_int m_cmp_Compare_int (by
    intro us v h; unfold m_cmp_Compare_int at h; split at h
    · rename_i v0 v1; exact q_cmp_Compare_int v0 v1
    · cases h) false
noncomputable abbrev X2 : Ext := extT [(124, (gF S_cmp_Compare_int m_cmp_Compare_int))] X1
theorem x2 : XOK Tryz.prog X2 := xok1 x1 e_cmp_Compare_int

/-- levee/value.Compare -/
def L_value_Compare : FuncId → Nat → Option (List Nat) := liveT [(123, 3, [3, 6, 7, 8]), (123, 1000003, [3]), (123, 2000003, [2])]
def M_value_Compare : FuncId → Bool := fun _ => false
noncomputable def rd_value_Compare_123_3 : List U → Rt
  | [.i v0, .l v1, .i v2, .i v3] =>
    (.test (decide (v3 < v2))
    (.test (inR v3 (ln v1))
    (.test (cI (el v1 v3) 0 != v0)
    (.stop 0 [.i (cI (el v1 v3) 0)])
    (.next [.i v0, .l v1, .i v2, .i (w64 (v3 + (1 : Int)))]))
    .fail)
    (.stop 1 [.i v0]))
  | _ => .fail
def sp_value_Compare_123_3 : LSp := ⟨18, ⟨[(3, .one (.i .i64)), (6, .one (.l 3)), (7, .one (.i .i64)), (8, .one (.i .i64))], []⟩, [(.ret, ⟨[(2, .one (.i .i64))], []⟩), (.exit 0, ⟨[(3, .one (.i .i64))], []⟩)]⟩
set_option maxRecDepth 100000 in
theorem rq_value_Compare_123_3 (v0 : Int) (v1 : List (List PV)) (v2 : Int) (v3 : Int) : runK br Tryz.prog (callK br Tryz.prog X2 M_value_Compare L_value_Compare (lsT []) 40) M_value_Compare (lsT [] 123 0) 40 0 (L_value_Compare 123) (bodyOf Tryz.prog 123 3) (sp_value_Compare_123_3.s.ts sp_value_Compare_123_3.n [.i v0, .l v1, .i v2, .i v3]) (sp_value_Compare_123_3.s.h [.i v0, .l v1, .i v2, .i v3]) (idc Tryz.prog 0 (L_value_Compare 123) 3) =
    (rd_value_Compare_123_3 [.i v0, .l v1, .i v2, .i v3]).go br (fun us' => some (.normal, sp_value_Compare_123_3.s.ts sp_value_Compare_123_3.n us', sp_value_Compare_123_3.s.h us')) sp_value_Compare_123_3.fin := by
  rw [← callF_eq, ← runF_eq]; kernel_rfl
theorem lo_value_Compare_123_3 {R : Type} : LoopTells Tryz.prog X2 M_value_Compare L_value_Compare 0 (L_value_Compare 123) (bodyOf Tryz.prog 123 3) (gL (R := R) sp_value_Compare_123_3 rd_value_Compare_123_3 br) :=
  loopTold (callK_ev (loopsOK_list rids noneIn) 40) (lsokIn (loopsOK_list rids noneIn) 123 0 3) (by kernel_rfl) sp_value_Compare_123_3 rd_value_Compare_123_3 rfl (by kernel_rfl) (by
    intro us v h; unfold rd_value_Compare_123_3 at h; split at h
    · rename_i v0 v1 v2 v3; exact rq_value_Compare_123_3 v0 v1 v2 v3
    · cases h)
noncomputable abbrev ll_value_Compare_123_3 {R : Type} : List (Nat × Nat × Nat × Smy R) := (123, 0, 3, gL sp_value_Compare_123_3 rd_value_Compare_123_3 br) :: []
theorem lk_value_Compare_123_3 {R : Type} : ∀ e ∈ ll_value_Compare_123_3 (R := R), LoopTells Tryz.prog X2 M_value_Compare L_value_Compare e.2.1 (L_value_Compare e.1) (bodyOf Tryz.prog e.1 e.2.2.1) e.2.2.2 := List.forall_mem_cons.2 ⟨lo_value_Compare_123_3, noneIn⟩
def S_value_Compare : FSp := ⟨[.agg [.i .i64, .i .i64, .s], .agg [.i .i64, .i .i64, .s]], [], [], [([.one (.i .i64)], [])]⟩
noncomputable def m_value_Compare : List U → Rt
  | [.i v0, .i v1, .s v2, .i v3, .i v4, .s v5] =>
    (let r0 : Rs := (Rt.res (m_cmp_Compare_int [U.i v0, U.i v3]))
    (.test (ok r0 0)
    (let r1 : Rs := (Rt.res (m_cmp_Compare_int [U.i v1, U.i v4]))
    (.test (ok r1 0)
    (let r2 : Rs := (lres rd_value_Compare_123_3 [U.i (0 : Int), U.l [[pI (uI (out r0 0) 0)], [pI (uI (out r1 0) 0)], [pI (Lib.compareBytes (Array.toList (ByteArray.data v2)) (Array.toList (ByteArray.data v5)))]], U.i (3 : Int), U.i (0 : Int)])
    (.test (ok r2 0)
    (.stop 0 [.i (uI (out r2 0) 0)])
    (.test (ok r2 1)
    (.stop 0 [.i (uI (out r2 1) 0)])
    .fail)))
    .fail))
    .fail))
  | _ => .fail
set_option maxRecDepth 100000 in
theorem q_value_Compare (v0 : Int) (v1 : Int) (v2 : ByteArray) (v3 : Int) (v4 : Int) (v5 : ByteArray) : callK br Tryz.prog X2 M_value_Compare L_value_Compare (lsT ll_value_Compare_123_3) 60 109 (encs [.i v0, .i v1, .s v2, .i v3, .i v4, .s v5] 0 S_value_Compare.ap) (encH [.i v0, .i v1, .s v2, .i v3, .i v4, .s v5] (ws S_value_Compare.ap) S_value_Compare.ah) (fun y => fixR Tryz.prog S_value_Compare.plan S_value_Compare.ah.length y) =
    (m_value_Compare [.i v0, .i v1, .s v2, .i v3, .i v4, .s v5]).go br (fun _ => none) S_value_Compare.fin := by
  rw [← callF_eq]; kernel_rfl
theorem e_value_Compare : EOK Tryz.prog 109 (gF S_value_Compare m_value_Compare) :=
  eokTold mixed named x2 (loopsOK_list rids lk_value_Compare_123_3) 60 S_value_Compare m_value_Compare (by
    intro us v h; unfold m_value_Compare at h; split at h
    · rename_i v0 v1 v2 v3 v4 v5; exact q_value_Compare v0 v1 v2 v3 v4 v5
    · cases h) false
noncomputable abbrev X3 : Ext := extT [(109, (gF S_value_Compare m_value_Compare))] X2
theorem x3 : XOK Tryz.prog X3 := xok1 x2 e_value_Compare

/-- levee/key.Compare -/
def L_key_Compare : FuncId → Nat → Option (List Nat) := liveT [(108, 2, [0, 1, 2, 11, 12, 13]), (108, 1000002, [0, 1]), (108, 2000002, [6])]
def M_key_Compare : FuncId → Bool := fun _ => false
noncomputable def rd_key_Compare_108_2 : List U → Rt
  | [.l v0, .l v1, .l v2, .i v3, .i v4] =>
    (.test (decide (v4 < v3))
    (.test (inR v4 (ln v2))
    (.test (decide (v4 ≥ ln v1))
    (.stop 0 [.i ((1 : Int))])
    (.test (inR v4 (ln v1))
    (let r0 : Rs := (Rt.res (m_value_Compare [U.i (cI (el v2 v4) 0), U.i (cI (el v2 v4) 1), U.s (cS (el v2 v4) 2), U.i (cI (el v1 v4) 0), U.i (cI (el v1 v4) 1), U.s (cS (el v1 v4) 2)]))
    (.test (ok r0 0)
    (.test (uI (out r0 0) 0 != (0 : Int))
    (.stop 0 [.i (uI (out r0 0) 0)])
    (.next [.l v0, .l v1, .l v2, .i v3, .i (w64 (v4 + (1 : Int)))]))
    .fail))
    .fail))
    .fail)
    (.stop 1 [.l v0, .l v1]))
  | _ => .fail
def sp_key_Compare_108_2 : LSp := ⟨39, ⟨[(0, .one (.l 31)), (1, .one (.l 31)), (2, .fn 109 []), (11, .one (.l 31)), (12, .one (.i .i64)), (13, .one (.i .i64))], []⟩, [(.ret, ⟨[(6, .one (.i .i64))], []⟩), (.exit 0, ⟨[(0, .one (.l 31)), (1, .one (.l 31))], []⟩)]⟩
set_option maxRecDepth 100000 in
theorem rq_key_Compare_108_2 (v0 : List (List PV)) (v1 : List (List PV)) (v2 : List (List PV)) (v3 : Int) (v4 : Int) : runK br Tryz.prog (callK br Tryz.prog X3 M_key_Compare L_key_Compare (lsT []) 40) M_key_Compare (lsT [] 108 0) 40 0 (L_key_Compare 108) (bodyOf Tryz.prog 108 2) (sp_key_Compare_108_2.s.ts sp_key_Compare_108_2.n [.l v0, .l v1, .l v2, .i v3, .i v4]) (sp_key_Compare_108_2.s.h [.l v0, .l v1, .l v2, .i v3, .i v4]) (idc Tryz.prog 0 (L_key_Compare 108) 2) =
    (rd_key_Compare_108_2 [.l v0, .l v1, .l v2, .i v3, .i v4]).go br (fun us' => some (.normal, sp_key_Compare_108_2.s.ts sp_key_Compare_108_2.n us', sp_key_Compare_108_2.s.h us')) sp_key_Compare_108_2.fin := by
  rw [← callF_eq, ← runF_eq]; kernel_rfl
theorem lo_key_Compare_108_2 {R : Type} : LoopTells Tryz.prog X3 M_key_Compare L_key_Compare 0 (L_key_Compare 108) (bodyOf Tryz.prog 108 2) (gL (R := R) sp_key_Compare_108_2 rd_key_Compare_108_2 br) :=
  loopTold (callK_ev (loopsOK_list rids noneIn) 40) (lsokIn (loopsOK_list rids noneIn) 108 0 2) (by kernel_rfl) sp_key_Compare_108_2 rd_key_Compare_108_2 rfl (by kernel_rfl) (by
    intro us v h; unfold rd_key_Compare_108_2 at h; split at h
    · rename_i v0 v1 v2 v3 v4; exact rq_key_Compare_108_2 v0 v1 v2 v3 v4
    · cases h)
noncomputable abbrev ll_key_Compare_108_2 {R : Type} : List (Nat × Nat × Nat × Smy R) := (108, 0, 2, gL sp_key_Compare_108_2 rd_key_Compare_108_2 br) :: []
theorem lk_key_Compare_108_2 {R : Type} : ∀ e ∈ ll_key_Compare_108_2 (R := R), LoopTells Tryz.prog X3 M_key_Compare L_key_Compare e.2.1 (L_key_Compare e.1) (bodyOf Tryz.prog e.1 e.2.2.1) e.2.2.2 := List.forall_mem_cons.2 ⟨lo_key_Compare_108_2, noneIn⟩
def S_key_Compare : FSp := ⟨[.one (.l 31), .one (.l 31)], [], [], [([.one (.i .i64)], [])]⟩
noncomputable def m_key_Compare : List U → Rt
  | [.l v0, .l v1] =>
    (let r0 : Rs := (lres rd_key_Compare_108_2 [U.l v0, U.l v1, U.l v0, U.i (ln v0), U.i (0 : Int)])
    (.test (ok r0 0)
    (.stop 0 [.i (uI (out r0 0) 0)])
    (.test (ok r0 1)
    (.test (decide (ln (uL (out r0 1) 0) < ln (uL (out r0 1) 1)))
    (.stop 0 [.i ((-1 : Int))])
    (.stop 0 [.i ((0 : Int))]))
    .fail)))
  | _ => .fail
set_option maxRecDepth 100000 in
theorem q_key_Compare (v0 : List (List PV)) (v1 : List (List PV)) : callK br Tryz.prog X3 M_key_Compare L_key_Compare (lsT ll_key_Compare_108_2) 60 78 (encs [.l v0, .l v1] 0 S_key_Compare.ap) (encH [.l v0, .l v1] (ws S_key_Compare.ap) S_key_Compare.ah) (fun y => fixR Tryz.prog S_key_Compare.plan S_key_Compare.ah.length y) =
    (m_key_Compare [.l v0, .l v1]).go br (fun _ => none) S_key_Compare.fin := by
  rw [← callF_eq]; kernel_rfl
theorem e_key_Compare : EOK Tryz.prog 78 (gF S_key_Compare m_key_Compare) :=
  eokTold mixed named x3 (loopsOK_list rids lk_key_Compare_108_2) 60 S_key_Compare m_key_Compare (by
    intro us v h; unfold m_key_Compare at h; split at h
    · rename_i v0 v1; exact q_key_Compare v0 v1
    · cases h) false
noncomputable abbrev X4 : Ext := extT [(78, (gF S_key_Compare m_key_Compare))] X3
theorem x4 : XOK Tryz.prog X4 := xok1 x3 e_key_Compare

/-- levee/row.Compare -/
def L_row_Compare : FuncId → Nat → Option (List Nat) := liveT []
def M_row_Compare : FuncId → Bool := fun _ => false
def S_row_Compare : FSp := ⟨[.one (.l 31), .one (.l 31)], [], [], [([.one (.i .i64)], [])]⟩
noncomputable def m_row_Compare : List U → Rt
  | [.l v0, .l v1] =>
    (let r0 : Rs := (Rt.res (m_key_Compare [U.l v0, U.l v1]))
    (.test (ok r0 0)
    (.stop 0 [.i (uI (out r0 0) 0)])
    .fail))
  | _ => .fail
set_option maxRecDepth 100000 in
theorem q_row_Compare (v0 : List (List PV)) (v1 : List (List PV)) : callK br Tryz.prog X4 M_row_Compare L_row_Compare (lsT []) 60 43 (encs [.l v0, .l v1] 0 S_row_Compare.ap) (encH [.l v0, .l v1] (ws S_row_Compare.ap) S_row_Compare.ah) (fun y => fixR Tryz.prog S_row_Compare.plan S_row_Compare.ah.length y) =
    (m_row_Compare [.l v0, .l v1]).go br (fun _ => none) S_row_Compare.fin := by
  rw [← callF_eq]; kernel_rfl
theorem e_row_Compare : EOK Tryz.prog 43 (gF S_row_Compare m_row_Compare) :=
  eokTold mixed named x4 (loopsOK_list rids noneIn) 60 S_row_Compare m_row_Compare (by
    intro us v h; unfold m_row_Compare at h; split at h
    · rename_i v0 v1; exact q_row_Compare v0 v1
    · cases h) false
noncomputable abbrev X5 : Ext := extT [(43, (gF S_row_Compare m_row_Compare))] X4
theorem x5 : XOK Tryz.prog X5 := xok1 x4 e_row_Compare

/-- slices.insertionSortCmpFunc[levee/api.Count] -/
def L_slices_insertionSortCmpFunc_Count : FuncId → Nat → Option (List Nat) := liveT [(126, 4, [0, 1, 2, 3, 8, 9]), (126, 1000004, [0, 1, 2, 3, 8]), (126, 2000004, []), (126, 1, [0, 1, 2, 3, 8]), (126, 1000001, []), (126, 2000001, [])]
def M_slices_insertionSortCmpFunc_Count : FuncId → Bool := fun _ => false
noncomputable def rd_slices_insertionSortCmpFunc_Count_126_4 : List U → Rt
  | [.i v0, .i v1, .i v2, .i v3, .l v4] =>
    (.test (decide (v3 > v0))
    (.test (inR v3 (ln v4))
    (.test (decide (Int.toNat v3 < List.length v4))
    (.test (inR (w64 (v3 - (1 : Int))) (ln v4))
    (.test (decide (Int.toNat (w64 (v3 - (1 : Int))) < List.length v4))
    (let r0 : Rs := (Rt.res (m_row_Compare [U.l (cL (el v4 v3) 0), U.l (cL (el v4 (w64 (v3 - (1 : Int)))) 0)]))
    (.test (ok r0 0)
    (.test (decide (uI (out r0 0) 0 < (0 : Int)))
    (.test (inR (w64 (v3 - (1 : Int))) (ln v4))
    (.test (decide (Int.toNat (w64 (v3 - (1 : Int))) < List.length v4))
    (.test (inR v3 (ln v4))
    (.test (decide (Int.toNat v3 < List.length v4))
    (.test (inR v3 (ln v4))
    (.test (decide (Int.toNat v3 < List.length v4))
    (.test (inR (w64 (v3 - (1 : Int))) (ln (List.set v4 (Int.toNat v3) (setCells (el v4 v3) 0 [PV.lst 31 (cL (el v4 (w64 (v3 - (1 : Int)))) 0), pI (cI (el v4 (w64 (v3 - (1 : Int)))) 1)]))))
    (.test (decide (Int.toNat (w64 (v3 - (1 : Int))) < List.length (List.set v4 (Int.toNat v3) (setCells (el v4 v3) 0 [PV.lst 31 (cL (el v4 (w64 (v3 - (1 : Int)))) 0), pI (cI (el v4 (w64 (v3 - (1 : Int)))) 1)]))))
    (.next [.i v0, .i v1, .i v2, .i (w64 (v3 - (1 : Int))), .l (List.set (List.set v4 (Int.toNat v3) (setCells (el v4 v3) 0 [PV.lst 31 (cL (el v4 (w64 (v3 - (1 : Int)))) 0), pI (cI (el v4 (w64 (v3 - (1 : Int)))) 1)])) (Int.toNat (w64 (v3 - (1 : Int)))) (setCells (el (List.set v4 (Int.toNat v3) (setCells (el v4 v3) 0 [PV.lst 31 (cL (el v4 (w64 (v3 - (1 : Int)))) 0), pI (cI (el v4 (w64 (v3 - (1 : Int)))) 1)])) (w64 (v3 - (1 : Int)))) 0 [PV.lst 31 (cL (el v4 v3) 0), pI (cI (el v4 v3) 1)]))])
    .fail)
    .fail)
    .fail)
    .fail)
    .fail)
    .fail)
    .fail)
    .fail)
    (.stop 0 [.i v0, .i v1, .i v2, .l v4]))
    .fail))
    .fail)
    .fail)
    .fail)
    .fail)
    (.stop 0 [.i v0, .i v1, .i v2, .l v4]))
  | _ => .fail
def sp_slices_insertionSortCmpFunc_Count_126_4 : LSp := ⟨53, ⟨[(0, .one (.all 0)), (1, .one (.i .i64)), (2, .one (.i .i64)), (3, .fn 84 []), (8, .one (.i .i64)), (9, .one (.i .i64))], [.arr 49 true]⟩, [(.exit 2, ⟨[(0, .one (.all 0)), (1, .one (.i .i64)), (2, .one (.i .i64)), (3, .fn 84 []), (8, .one (.i .i64))], [.arr 49 true]⟩)]⟩
set_option maxRecDepth 100000 in
theorem rq_slices_insertionSortCmpFunc_Count_126_4 (v0 : Int) (v1 : Int) (v2 : Int) (v3 : Int) (v4 : List (List PV)) : runK br Tryz.prog (callK br Tryz.prog X5 M_slices_insertionSortCmpFunc_Count L_slices_insertionSortCmpFunc_Count (lsT []) 40) M_slices_insertionSortCmpFunc_Count (lsT [] 126 1) 40 1 (L_slices_insertionSortCmpFunc_Count 126) (bodyOf Tryz.prog 126 4) (sp_slices_insertionSortCmpFunc_Count_126_4.s.ts sp_slices_insertionSortCmpFunc_Count_126_4.n [.i v0, .i v1, .i v2, .i v3, .l v4]) (sp_slices_insertionSortCmpFunc_Count_126_4.s.h [.i v0, .i v1, .i v2, .i v3, .l v4]) (idc Tryz.prog 1 (L_slices_insertionSortCmpFunc_Count 126) 4) =
    (rd_slices_insertionSortCmpFunc_Count_126_4 [.i v0, .i v1, .i v2, .i v3, .l v4]).go br (fun us' => some (.normal, sp_slices_insertionSortCmpFunc_Count_126_4.s.ts sp_slices_insertionSortCmpFunc_Count_126_4.n us', sp_slices_insertionSortCmpFunc_Count_126_4.s.h us')) sp_slices_insertionSortCmpFunc_Count_126_4.fin := by
  rw [← callF_eq, ← runF_eq]; kernel_rfl
theorem lo_slices_insertionSortCmpFunc_Count_126_4 {R : Type} : LoopTells Tryz.prog X5 M_slices_insertionSortCmpFunc_Count L_slices_insertionSortCmpFunc_Count 1 (L_slices_insertionSortCmpFunc_Count 126) (bodyOf Tryz.prog 126 4) (gL (R := R) sp_slices_insertionSortCmpFunc_Count_126_4 rd_slices_insertionSortCmpFunc_Count_126_4 br) :=
  loopTold (callK_ev (loopsOK_list rids noneIn) 40) (lsokIn (loopsOK_list rids noneIn) 126 1 4) (by kernel_rfl) sp_slices_insertionSortCmpFunc_Count_126_4 rd_slices_insertionSortCmpFunc_Count_126_4 rfl (by kernel_rfl) (by
    intro us v h; unfold rd_slices_insertionSortCmpFunc_Count_126_4 at h; split at h
    · rename_i v0 v1 v2 v3 v4; exact rq_slices_insertionSortCmpFunc_Count_126_4 v0 v1 v2 v3 v4
    · cases h)
noncomputable abbrev ll_slices_insertionSortCmpFunc_Count_126_4 {R : Type} : List (Nat × Nat × Nat × Smy R) := (126, 1, 4, gL sp_slices_insertionSortCmpFunc_Count_126_4 rd_slices_insertionSortCmpFunc_Count_126_4 br) :: []
theorem lk_slices_insertionSortCmpFunc_Count_126_4 {R : Type} : ∀ e ∈ ll_slices_insertionSortCmpFunc_Count_126_4 (R := R), LoopTells Tryz.prog X5 M_slices_insertionSortCmpFunc_Count L_slices_insertionSortCmpFunc_Count e.2.1 (L_slices_insertionSortCmpFunc_Count e.1) (bodyOf Tryz.prog e.1 e.2.2.1) e.2.2.2 := List.forall_mem_cons.2 ⟨lo_slices_insertionSortCmpFunc_Count_126_4, noneIn⟩
noncomputable def rd_slices_insertionSortCmpFunc_Count_126_1 : List U → Rt
  | [.i v0, .i v1, .i v2, .l v3] =>
    (.test (decide (v2 < v1))
    (let r0 : Rs := (lres rd_slices_insertionSortCmpFunc_Count_126_4 [U.i v0, U.i v1, U.i v2, U.i v2, U.l v3])
    (.test (ok r0 0)
    (.next [.i (uI (out r0 0) 0), .i (uI (out r0 0) 1), .i (w64 (uI (out r0 0) 2 + (1 : Int))), .l (uL (out r0 0) 3)])
    .fail))
    (.stop 0 [.l v3]))
  | _ => .fail
def sp_slices_insertionSortCmpFunc_Count_126_1 : LSp := ⟨53, ⟨[(0, .one (.all 0)), (1, .one (.i .i64)), (2, .one (.i .i64)), (3, .fn 84 []), (8, .one (.i .i64))], [.arr 49 true]⟩, [(.exit 0, ⟨[], [.arr 49 true]⟩)]⟩
set_option maxRecDepth 100000 in
theorem rq_slices_insertionSortCmpFunc_Count_126_1 (v0 : Int) (v1 : Int) (v2 : Int) (v3 : List (List PV)) : runK br Tryz.prog (callK br Tryz.prog X5 M_slices_insertionSortCmpFunc_Count L_slices_insertionSortCmpFunc_Count (lsT ll_slices_insertionSortCmpFunc_Count_126_4) 40) M_slices_insertionSortCmpFunc_Count (lsT ll_slices_insertionSortCmpFunc_Count_126_4 126 1) 40 1 (L_slices_insertionSortCmpFunc_Count 126) (bodyOf Tryz.prog 126 1) (sp_slices_insertionSortCmpFunc_Count_126_1.s.ts sp_slices_insertionSortCmpFunc_Count_126_1.n [.i v0, .i v1, .i v2, .l v3]) (sp_slices_insertionSortCmpFunc_Count_126_1.s.h [.i v0, .i v1, .i v2, .l v3]) (idc Tryz.prog 1 (L_slices_insertionSortCmpFunc_Count 126) 1) =
    (rd_slices_insertionSortCmpFunc_Count_126_1 [.i v0, .i v1, .i v2, .l v3]).go br (fun us' => some (.normal, sp_slices_insertionSortCmpFunc_Count_126_1.s.ts sp_slices_insertionSortCmpFunc_Count_126_1.n us', sp_slices_insertionSortCmpFunc_Count_126_1.s.h us')) sp_slices_insertionSortCmpFunc_Count_126_1.fin := by
  rw [← callF_eq, ← runF_eq]; kernel_rfl
theorem lo_slices_insertionSortCmpFunc_Count_126_1 {R : Type} : LoopTells Tryz.prog X5 M_slices_insertionSortCmpFunc_Count L_slices_insertionSortCmpFunc_Count 1 (L_slices_insertionSortCmpFunc_Count 126) (bodyOf Tryz.prog 126 1) (gL (R := R) sp_slices_insertionSortCmpFunc_Count_126_1 rd_slices_insertionSortCmpFunc_Count_126_1 br) :=
  loopTold (callK_ev (loopsOK_list rids lk_slices_insertionSortCmpFunc_Count_126_4) 40) (lsokIn (loopsOK_list rids lk_slices_insertionSortCmpFunc_Count_126_4) 126 1 1) (by kernel_rfl) sp_slices_insertionSortCmpFunc_Count_126_1 rd_slices_insertionSortCmpFunc_Count_126_1 rfl (by kernel_rfl) (by
    intro us v h; unfold rd_slices_insertionSortCmpFunc_Count_126_1 at h; split at h
    · rename_i v0 v1 v2 v3; exact rq_slices_insertionSortCmpFunc_Count_126_1 v0 v1 v2 v3
    · cases h)
noncomputable abbrev ll_slices_insertionSortCmpFunc_Count_126_1 {R : Type} : List (Nat × Nat × Nat × Smy R) := (126, 1, 1, gL sp_slices_insertionSortCmpFunc_Count_126_1 rd_slices_insertionSortCmpFunc_Count_126_1 br) :: ll_slices_insertionSortCmpFunc_Count_126_4
theorem lk_slices_insertionSortCmpFunc_Count_126_1 {R : Type} : ∀ e ∈ ll_slices_insertionSortCmpFunc_Count_126_1 (R := R), LoopTells Tryz.prog X5 M_slices_insertionSortCmpFunc_Count L_slices_insertionSortCmpFunc_Count e.2.1 (L_slices_insertionSortCmpFunc_Count e.1) (bodyOf Tryz.prog e.1 e.2.2.1) e.2.2.2 := List.forall_mem_cons.2 ⟨lo_slices_insertionSortCmpFunc_Count_126_1, lk_slices_insertionSortCmpFunc_Count_126_4⟩
def S_slices_insertionSortCmpFunc_Count : FSp := ⟨[.one (.all 0), .one (.i .i64), .one (.i .i64), .fn 84 []], [.arr 49 true], [], [([], [.arr 49 true])]⟩
noncomputable def m_slices_insertionSortCmpFunc_Count : List U → Rt
  | [.i v0, .i v1, .l v2] =>
    (let r0 : Rs := (lres rd_slices_insertionSortCmpFunc_Count_126_1 [U.i v0, U.i v1, U.i (w64 (v0 + (1 : Int))), U.l v2])
    (.test (ok r0 0)
    (.stop 0 [.l (uL (out r0 0) 0)])
    .fail))
  | _ => .fail
set_option maxRecDepth 100000 in
theorem q_slices_insertionSortCmpFunc_Count (v0 : Int) (v1 : Int) (v2 : List (List PV)) : callK br Tryz.prog X5 M_slices_insertionSortCmpFunc_Count L_slices_insertionSortCmpFunc_Count (lsT ll_slices_insertionSortCmpFunc_Count_126_1) 60 126 (encs [.i v0, .i v1, .l v2] 0 S_slices_insertionSortCmpFunc_Count.ap) (encH [.i v0, .i v1, .l v2] (ws S_slices_insertionSortCmpFunc_Count.ap) S_slices_insertionSortCmpFunc_Count.ah) (fun y => fixR Tryz.prog S_slices_insertionSortCmpFunc_Count.plan S_slices_insertionSortCmpFunc_Count.ah.length y) =
    (m_slices_insertionSortCmpFunc_Count [.i v0, .i v1, .l v2]).go br (fun _ => none) S_slices_insertionSortCmpFunc_Count.fin := by
  rw [← callF_eq]; kernel_rfl
theorem e_slices_insertionSortCmpFunc_Count : EOK Tryz.prog 126 (gF S_slices_insertionSortCmpFunc_Count m_slices_insertionSortCmpFunc_Count) :=
  eokTold mixed named x5 (loopsOK_list rids lk_slices_insertionSortCmpFunc_Count_126_1) 60 S_slices_insertionSortCmpFunc_Count m_slices_insertionSortCmpFunc_Count (by
    intro us v h; unfold m_slices_insertionSortCmpFunc_Count at h; split at h
    · rename_i v0 v1 v2; exact q_slices_insertionSortCmpFunc_Count v0 v1 v2
    · cases h) false
noncomputable abbrev X6 : Ext := extT [(126, (gF S_slices_insertionSortCmpFunc_Count m_slices_insertionSortCmpFunc_Count))] X5
theorem x6 : XOK Tryz.prog X6 := xok1 x5 e_slices_insertionSortCmpFunc_Count

/-- slices.swapRangeCmpFunc[levee/api.Count] -/
def L_slices_swapRangeCmpFunc_Count : FuncId → Nat → Option (List Nat) := liveT [(155, 1, [0, 1, 2, 3, 10]), (155, 1000001, []), (155, 2000001, [])]
def M_slices_swapRangeCmpFunc_Count : FuncId → Bool := fun _ => false
noncomputable def rd_slices_swapRangeCmpFunc_Count_155_1 : List U → Rt
  | [.i v0, .i v1, .i v2, .i v3, .l v4] =>
    (.test (decide (v3 < v2))
    (.test (inR (w64 (v1 + v3)) (ln v4))
    (.test (decide (Int.toNat (w64 (v1 + v3)) < List.length v4))
    (.test (inR (w64 (v0 + v3)) (ln v4))
    (.test (decide (Int.toNat (w64 (v0 + v3)) < List.length v4))
    (.test (inR (w64 (v0 + v3)) (ln v4))
    (.test (decide (Int.toNat (w64 (v0 + v3)) < List.length v4))
    (.test (inR (w64 (v1 + v3)) (ln (List.set v4 (Int.toNat (w64 (v0 + v3))) (setCells (el v4 (w64 (v0 + v3))) 0 [PV.lst 31 (cL (el v4 (w64 (v1 + v3))) 0), pI (cI (el v4 (w64 (v1 + v3))) 1)]))))
    (.test (decide (Int.toNat (w64 (v1 + v3)) < List.length (List.set v4 (Int.toNat (w64 (v0 + v3))) (setCells (el v4 (w64 (v0 + v3))) 0 [PV.lst 31 (cL (el v4 (w64 (v1 + v3))) 0), pI (cI (el v4 (w64 (v1 + v3))) 1)]))))
    (.next [.i v0, .i v1, .i v2, .i (w64 (v3 + (1 : Int))), .l (List.set (List.set v4 (Int.toNat (w64 (v0 + v3))) (setCells (el v4 (w64 (v0 + v3))) 0 [PV.lst 31 (cL (el v4 (w64 (v1 + v3))) 0), pI (cI (el v4 (w64 (v1 + v3))) 1)])) (Int.toNat (w64 (v1 + v3))) (setCells (el (List.set v4 (Int.toNat (w64 (v0 + v3))) (setCells (el v4 (w64 (v0 + v3))) 0 [PV.lst 31 (cL (el v4 (w64 (v1 + v3))) 0), pI (cI (el v4 (w64 (v1 + v3))) 1)])) (w64 (v1 + v3))) 0 [PV.lst 31 (cL (el v4 (w64 (v0 + v3))) 0), pI (cI (el v4 (w64 (v0 + v3))) 1)]))])
    .fail)
    .fail)
    .fail)
    .fail)
    .fail)
    .fail)
    .fail)
    .fail)
    (.stop 0 [.l v4]))
  | _ => .fail
def sp_slices_swapRangeCmpFunc_Count_155_1 : LSp := ⟨38, ⟨[(0, .one (.all 0)), (1, .one (.i .i64)), (2, .one (.i .i64)), (3, .one (.i .i64)), (10, .one (.i .i64))], [.arr 49 true]⟩, [(.exit 0, ⟨[], [.arr 49 true]⟩)]⟩
set_option maxRecDepth 100000 in
theorem rq_slices_swapRangeCmpFunc_Count_155_1 (v0 : Int) (v1 : Int) (v2 : Int) (v3 : Int) (v4 : List (List PV)) : runK br Tryz.prog (callK br Tryz.prog X6 M_slices_swapRangeCmpFunc_Count L_slices_swapRangeCmpFunc_Count (lsT []) 40) M_slices_swapRangeCmpFunc_Count (lsT [] 155 1) 40 1 (L_slices_swapRangeCmpFunc_Count 155) (bodyOf Tryz.prog 155 1) (sp_slices_swapRangeCmpFunc_Count_155_1.s.ts sp_slices_swapRangeCmpFunc_Count_155_1.n [.i v0, .i v1, .i v2, .i v3, .l v4]) (sp_slices_swapRangeCmpFunc_Count_155_1.s.h [.i v0, .i v1, .i v2, .i v3, .l v4]) (idc Tryz.prog 1 (L_slices_swapRangeCmpFunc_Count 155) 1) =
    (rd_slices_swapRangeCmpFunc_Count_155_1 [.i v0, .i v1, .i v2, .i v3, .l v4]).go br (fun us' => some (.normal, sp_slices_swapRangeCmpFunc_Count_155_1.s.ts sp_slices_swapRangeCmpFunc_Count_155_1.n us', sp_slices_swapRangeCmpFunc_Count_155_1.s.h us')) sp_slices_swapRangeCmpFunc_Count_155_1.fin := by
  rw [← callF_eq, ← runF_eq]; kernel_rfl
theorem lo_slices_swapRangeCmpFunc_Count_155_1 {R : Type} : LoopTells Tryz.prog X6 M_slices_swapRangeCmpFunc_Count L_slices_swapRangeCmpFunc_Count 1 (L_slices_swapRangeCmpFunc_Count 155) (bodyOf Tryz.prog 155 1) (gL (R := R) sp_slices_swapRangeCmpFunc_Count_155_1 rd_slices_swapRangeCmpFunc_Count_155_1 br) :=
  loopTold (callK_ev (loopsOK_list rids noneIn) 40) (lsokIn (loopsOK_list rids noneIn) 155 1 1) (by kernel_rfl) sp_slices_swapRangeCmpFunc_Count_155_1 rd_slices_swapRangeCmpFunc_Count_155_1 rfl (by kernel_rfl) (by
    intro us v h; unfold rd_slices_swapRangeCmpFunc_Count_155_1 at h; split at h
    · rename_i v0 v1 v2 v3 v4; exact rq_slices_swapRangeCmpFunc_Count_155_1 v0 v1 v2 v3 v4
    · cases h)
noncomputable abbrev ll_slices_swapRangeCmpFunc_Count_155_1 {R : Type} : List (Nat × Nat × Nat × Smy R) := (155, 1, 1, gL sp_slices_swapRangeCmpFunc_Count_155_1 rd_slices_swapRangeCmpFunc_Count_155_1 br) :: []
theorem lk_slices_swapRangeCmpFunc_Count_155_1 {R : Type} : ∀ e ∈ ll_slices_swapRangeCmpFunc_Count_155_1 (R := R), LoopTells Tryz.prog X6 M_slices_swapRangeCmpFunc_Count L_slices_swapRangeCmpFunc_Count e.2.1 (L_slices_swapRangeCmpFunc_Count e.1) (bodyOf Tryz.prog e.1 e.2.2.1) e.2.2.2 := List.forall_mem_cons.2 ⟨lo_slices_swapRangeCmpFunc_Count_155_1, noneIn⟩
def S_slices_swapRangeCmpFunc_Count : FSp := ⟨[.one (.all 0), .one (.i .i64), .one (.i .i64), .one (.i .i64), .fn 84 []], [.arr 49 true], [], [([], [.arr 49 true])]⟩
noncomputable def m_slices_swapRangeCmpFunc_Count : List U → Rt
  | [.i v0, .i v1, .i v2, .l v3] =>
    (let r0 : Rs := (lres rd_slices_swapRangeCmpFunc_Count_155_1 [U.i v0, U.i v1, U.i v2, U.i (0 : Int), U.l v3])
    (.test (ok r0 0)
    (.stop 0 [.l (uL (out r0 0) 0)])
    .fail))
  | _ => .fail
set_option maxRecDepth 100000 in
theorem q_slices_swapRangeCmpFunc_Count (v0 : Int) (v1 : Int) (v2 : Int) (v3 : List (List PV)) : callK br Tryz.prog X6 M_slices_swapRangeCmpFunc_Count L_slices_swapRangeCmpFunc_Count (lsT ll_slices_swapRangeCmpFunc_Count_155_1) 60 155 (encs [.i v0, .i v1, .i v2, .l v3] 0 S_slices_swapRangeCmpFunc_Count.ap) (encH [.i v0, .i v1, .i v2, .l v3] (ws S_slices_swapRangeCmpFunc_Count.ap) S_slices_swapRangeCmpFunc_Count.ah) (fun y => fixR Tryz.prog S_slices_swapRangeCmpFunc_Count.plan S_slices_swapRangeCmpFunc_Count.ah.length y) =
    (m_slices_swapRangeCmpFunc_Count [.i v0, .i v1, .i v2, .l v3]).go br (fun _ => none) S_slices_swapRangeCmpFunc_Count.fin := by
  rw [← callF_eq]; kernel_rfl
theorem e_slices_swapRangeCmpFunc_Count : EOK Tryz.prog 155 (gF S_slices_swapRangeCmpFunc_Count m_slices_swapRangeCmpFunc_Count) :=
  eokTold mixed named x6 (loopsOK_list rids lk_slices_swapRangeCmpFunc_Count_155_1) 60 S_slices_swapRangeCmpFunc_Count m_slices_swapRangeCmpFunc_Count (by
    intro us v h; unfold m_slices_swapRangeCmpFunc_Count at h; split at h
    · rename_i v0 v1 v2 v3; exact q_slices_swapRangeCmpFunc_Count v0 v1 v2 v3
    · cases h) false
noncomputable abbrev X7 : Ext := extT [(155, (gF S_slices_swapRangeCmpFunc_Count m_slices_swapRangeCmpFunc_Count))] X6
theorem x7 : XOK Tryz.prog X7 := xok1 x6 e_slices_swapRangeCmpFunc_Count

/-- slices.rotateCmpFunc[levee/api.Count] -/
def L_slices_rotateCmpFunc_Count : FuncId → Nat → Option (List Nat) := liveT [(142, 2, [0, 2, 4, 10, 11]), (142, 1000002, [0, 2, 4, 10]), (142, 2000002, [])]
def M_slices_rotateCmpFunc_Count : FuncId → Bool := fun f => f == 155
noncomputable def rd_slices_rotateCmpFunc_Count_142_2 : List U → Rt
  | [.i v0, .i v1, .i v2, .l v3] =>
    (.test (v1 != v2)
    (.test (decide (v1 > v2))
    (let r0 : Rs := (Rt.res (m_slices_swapRangeCmpFunc_Count [U.i (w64 (v0 - v1)), U.i v0, U.i v2, U.l v3]))
    (.test (ok r0 0)
    (.next [.i v0, .i (w64 (v1 - v2)), .i v2, .l (uL (out r0 0) 0)])
    .fail))
    (let r1 : Rs := (Rt.res (m_slices_swapRangeCmpFunc_Count [U.i (w64 (v0 - v1)), U.i (w64 (w64 (v0 + v2) - v1)), U.i v1, U.l v3]))
    (.test (ok r1 0)
    (.next [.i v0, .i v1, .i (w64 (v2 - v1)), .l (uL (out r1 0) 0)])
    .fail)))
    (.stop 0 [.i v0, .i v1, .l v3]))
  | _ => .fail
def sp_slices_rotateCmpFunc_Count_142_2 : LSp := ⟨58, ⟨[(0, .one (.all 0)), (2, .one (.i .i64)), (4, .fn 84 []), (10, .one (.i .i64)), (11, .one (.i .i64))], [.arr 49 true]⟩, [(.exit 0, ⟨[(0, .one (.all 0)), (2, .one (.i .i64)), (4, .fn 84 []), (10, .one (.i .i64))], [.arr 49 true]⟩)]⟩
set_option maxRecDepth 100000 in
theorem rq_slices_rotateCmpFunc_Count_142_2 (v0 : Int) (v1 : Int) (v2 : Int) (v3 : List (List PV)) : runK br Tryz.prog (callK br Tryz.prog X7 M_slices_rotateCmpFunc_Count L_slices_rotateCmpFunc_Count (lsT []) 40) M_slices_rotateCmpFunc_Count (lsT [] 142 1) 40 1 (L_slices_rotateCmpFunc_Count 142) (bodyOf Tryz.prog 142 2) (sp_slices_rotateCmpFunc_Count_142_2.s.ts sp_slices_rotateCmpFunc_Count_142_2.n [.i v0, .i v1, .i v2, .l v3]) (sp_slices_rotateCmpFunc_Count_142_2.s.h [.i v0, .i v1, .i v2, .l v3]) (idc Tryz.prog 1 (L_slices_rotateCmpFunc_Count 142) 2) =
    (rd_slices_rotateCmpFunc_Count_142_2 [.i v0, .i v1, .i v2, .l v3]).go br (fun us' => some (.normal, sp_slices_rotateCmpFunc_Count_142_2.s.ts sp_slices_rotateCmpFunc_Count_142_2.n us', sp_slices_rotateCmpFunc_Count_142_2.s.h us')) sp_slices_rotateCmpFunc_Count_142_2.fin := by
  rw [← callF_eq, ← runF_eq]; kernel_rfl
theorem lo_slices_rotateCmpFunc_Count_142_2 {R : Type} : LoopTells Tryz.prog X7 M_slices_rotateCmpFunc_Count L_slices_rotateCmpFunc_Count 1 (L_slices_rotateCmpFunc_Count 142) (bodyOf Tryz.prog 142 2) (gL (R := R) sp_slices_rotateCmpFunc_Count_142_2 rd_slices_rotateCmpFunc_Count_142_2 br) :=
  loopTold (callK_ev (loopsOK_list rids noneIn) 40) (lsokIn (loopsOK_list rids noneIn) 142 1 2) (by kernel_rfl) sp_slices_rotateCmpFunc_Count_142_2 rd_slices_rotateCmpFunc_Count_142_2 rfl (by kernel_rfl) (by
    intro us v h; unfold rd_slices_rotateCmpFunc_Count_142_2 at h; split at h
    · rename_i v0 v1 v2 v3; exact rq_slices_rotateCmpFunc_Count_142_2 v0 v1 v2 v3
    · cases h)
noncomputable abbrev ll_slices_rotateCmpFunc_Count_142_2 {R : Type} : List (Nat × Nat × Nat × Smy R) := (142, 1, 2, gL sp_slices_rotateCmpFunc_Count_142_2 rd_slices_rotateCmpFunc_Count_142_2 br) :: []
theorem lk_slices_rotateCmpFunc_Count_142_2 {R : Type} : ∀ e ∈ ll_slices_rotateCmpFunc_Count_142_2 (R := R), LoopTells Tryz.prog X7 M_slices_rotateCmpFunc_Count L_slices_rotateCmpFunc_Count e.2.1 (L_slices_rotateCmpFunc_Count e.1) (bodyOf Tryz.prog e.1 e.2.2.1) e.2.2.2 := List.forall_mem_cons.2 ⟨lo_slices_rotateCmpFunc_Count_142_2, noneIn⟩
def S_slices_rotateCmpFunc_Count : FSp := ⟨[.one (.all 0), .one (.i .i64), .one (.i .i64), .one (.i .i64), .fn 84 []], [.arr 49 true], [], [([], [.arr 49 true])]⟩
noncomputable def m_slices_rotateCmpFunc_Count : List U → Rt
  | [.i v0, .i v1, .i v2, .l v3] =>
    (let r0 : Rs := (lres rd_slices_rotateCmpFunc_Count_142_2 [U.i v1, U.i (w64 (v1 - v0)), U.i (w64 (v2 - v1)), U.l v3])
    (.test (ok r0 0)
    (let r1 : Rs := (Rt.res (m_slices_swapRangeCmpFunc_Count [U.i (w64 (uI (out r0 0) 0 - uI (out r0 0) 1)), U.i (uI (out r0 0) 0), U.i (uI (out r0 0) 1), U.l (uL (out r0 0) 2)]))
    (.test (ok r1 0)
    (.stop 0 [.l (uL (out r1 0) 0)])
    .fail))
    .fail))
  | _ => .fail
set_option maxRecDepth 100000 in
theorem q_slices_rotateCmpFunc_Count (v0 : Int) (v1 : Int) (v2 : Int) (v3 : List (List PV)) : callK br Tryz.prog X7 M_slices_rotateCmpFunc_Count L_slices_rotateCmpFunc_Count (lsT ll_slices_rotateCmpFunc_Count_142_2) 60 142 (encs [.i v0, .i v1, .i v2, .l v3] 0 S_slices_rotateCmpFunc_Count.ap) (encH [.i v0, .i v1, .i v2, .l v3] (ws S_slices_rotateCmpFunc_Count.ap) S_slices_rotateCmpFunc_Count.ah) (fun y => fixR Tryz.prog S_slices_rotateCmpFunc_Count.plan S_slices_rotateCmpFunc_Count.ah.length y) =
    (m_slices_rotateCmpFunc_Count [.i v0, .i v1, .i v2, .l v3]).go br (fun _ => none) S_slices_rotateCmpFunc_Count.fin := by
  rw [← callF_eq]; kernel_rfl
theorem e_slices_rotateCmpFunc_Count : EOK Tryz.prog 142 (gF S_slices_rotateCmpFunc_Count m_slices_rotateCmpFunc_Count) :=
  eokTold mixed named x7 (loopsOK_list rids lk_slices_rotateCmpFunc_Count_142_2) 60 S_slices_rotateCmpFunc_Count m_slices_rotateCmpFunc_Count (by
    intro us v h; unfold m_slices_rotateCmpFunc_Count at h; split at h
    · rename_i v0 v1 v2 v3; exact q_slices_rotateCmpFunc_Count v0 v1 v2 v3
    · cases h) false
noncomputable abbrev X8 : Ext := extT [(142, (gF S_slices_rotateCmpFunc_Count m_slices_rotateCmpFunc_Count))] X7
theorem x8 : XOK Tryz.prog X8 := xok1 x7 e_slices_rotateCmpFunc_Count

/-- slices.symMergeCmpFunc[levee/api.Count] -/
def L_slices_symMergeCmpFunc_Count : FuncId → Nat → Option (List Nat) := liveT [(127, 3, [0, 1, 4, 10, 11]), (127, 1000003, [0, 1, 10]), (127, 2000003, []), (127, 9, [0, 10, 13]), (127, 1000009, []), (127, 2000009, []), (127, 15, [0, 2, 4, 14, 15]), (127, 1000015, [0, 2, 14]), (127, 2000015, []), (127, 21, [0, 14, 17]), (127, 1000021, []), (127, 2000021, []), (127, 33, [0, 1, 2, 3, 4, 18, 19, 20, 21, 22]), (127, 1000033, [0, 1, 2, 3, 4, 18, 19, 20]), (127, 2000033, [])]
def M_slices_symMergeCmpFunc_Count : FuncId → Bool := fun f => f == 127 || f == 142
def S_slices_symMergeCmpFunc_Count : FSp := ⟨[.one (.all 0), .one (.i .i64), .one (.i .i64), .one (.i .i64), .fn 84 []], [.arr 49 true], [], [([], [.arr 49 true])]⟩
noncomputable def rd_slices_symMergeCmpFunc_Count_127_3 : List U → Rt
  | [.i v0, .i v1, .i v2, .l v3] =>
    (.test (decide (v1 < v2))
    (.test (inR (w64 (Int.fdiv (IntKind.wrap IntKind.u64 (w64 (v1 + v2))) (2 : Int))) (ln v3))
    (.test (decide (Int.toNat (w64 (Int.fdiv (IntKind.wrap IntKind.u64 (w64 (v1 + v2))) (2 : Int))) < List.length v3))
    (.test (inR v0 (ln v3))
    (.test (decide (Int.toNat v0 < List.length v3))
    (let r0 : Rs := (Rt.res (m_row_Compare [U.l (cL (el v3 (w64 (Int.fdiv (IntKind.wrap IntKind.u64 (w64 (v1 + v2))) (2 : Int)))) 0), U.l (cL (el v3 v0) 0)]))
    (.test (ok r0 0)
    (.test (decide (uI (out r0 0) 0 < (0 : Int)))
    (.next [.i v0, .i (w64 (w64 (Int.fdiv (IntKind.wrap IntKind.u64 (w64 (v1 + v2))) (2 : Int)) + (1 : Int))), .i v2, .l v3])
    (.next [.i v0, .i v1, .i (w64 (Int.fdiv (IntKind.wrap IntKind.u64 (w64 (v1 + v2))) (2 : Int))), .l v3]))
    .fail))
    .fail)
    .fail)
    .fail)
    .fail)
    (.stop 0 [.i v0, .i v1, .l v3]))
  | _ => .fail
def sp_slices_symMergeCmpFunc_Count_127_3 : LSp := ⟨220, ⟨[(0, .one (.all 0)), (1, .one (.i .i64)), (4, .fn 84 []), (10, .one (.i .i64)), (11, .one (.i .i64))], [.arr 49 true]⟩, [(.exit 0, ⟨[(0, .one (.all 0)), (1, .one (.i .i64)), (10, .one (.i .i64))], [.arr 49 true]⟩)]⟩
set_option maxRecDepth 100000 in
theorem rq_slices_symMergeCmpFunc_Count_127_3 (mr : List U → Rt) (v0 : Int) (v1 : Int) (v2 : Int) (v3 : List (List PV)) : runK br Tryz.prog (callK br Tryz.prog (extT [(127, gF S_slices_symMergeCmpFunc_Count mr)] X8) M_slices_symMergeCmpFunc_Count L_slices_symMergeCmpFunc_Count (lsT []) 40) M_slices_symMergeCmpFunc_Count (lsT [] 127 1) 40 1 (L_slices_symMergeCmpFunc_Count 127) (bodyOf Tryz.prog 127 3) (sp_slices_symMergeCmpFunc_Count_127_3.s.ts sp_slices_symMergeCmpFunc_Count_127_3.n [.i v0, .i v1, .i v2, .l v3]) (sp_slices_symMergeCmpFunc_Count_127_3.s.h [.i v0, .i v1, .i v2, .l v3]) (idc Tryz.prog 1 (L_slices_symMergeCmpFunc_Count 127) 3) =
    (rd_slices_symMergeCmpFunc_Count_127_3 [.i v0, .i v1, .i v2, .l v3]).go br (fun us' => some (.normal, sp_slices_symMergeCmpFunc_Count_127_3.s.ts sp_slices_symMergeCmpFunc_Count_127_3.n us', sp_slices_symMergeCmpFunc_Count_127_3.s.h us')) sp_slices_symMergeCmpFunc_Count_127_3.fin := by
  rw [← callF_eq, ← runF_eq]; kernel_rfl
theorem lo_slices_symMergeCmpFunc_Count_127_3 {R : Type} (mr : List U → Rt) : LoopTells Tryz.prog (extT [(127, gF S_slices_symMergeCmpFunc_Count mr)] X8) M_slices_symMergeCmpFunc_Count L_slices_symMergeCmpFunc_Count 1 (L_slices_symMergeCmpFunc_Count 127) (bodyOf Tryz.prog 127 3) (gL (R := R) sp_slices_symMergeCmpFunc_Count_127_3 rd_slices_symMergeCmpFunc_Count_127_3 br) :=
  loopTold (callK_ev (loopsOK_list rids noneIn) 40) (lsokIn (loopsOK_list rids noneIn) 127 1 3) (by kernel_rfl) sp_slices_symMergeCmpFunc_Count_127_3 rd_slices_symMergeCmpFunc_Count_127_3 rfl (by kernel_rfl) (by
    intro us v h; unfold rd_slices_symMergeCmpFunc_Count_127_3 at h; split at h
    · rename_i v0 v1 v2 v3; exact rq_slices_symMergeCmpFunc_Count_127_3 mr v0 v1 v2 v3
    · cases h)
noncomputable abbrev ll_slices_symMergeCmpFunc_Count_127_3 {R : Type} : List (Nat × Nat × Nat × Smy R) := (127, 1, 3, gL sp_slices_symMergeCmpFunc_Count_127_3 rd_slices_symMergeCmpFunc_Count_127_3 br) :: []
theorem lk_slices_symMergeCmpFunc_Count_127_3 {R : Type} (mr : List U → Rt) : ∀ e ∈ ll_slices_symMergeCmpFunc_Count_127_3 (R := R), LoopTells Tryz.prog (extT [(127, gF S_slices_symMergeCmpFunc_Count mr)] X8) M_slices_symMergeCmpFunc_Count L_slices_symMergeCmpFunc_Count e.2.1 (L_slices_symMergeCmpFunc_Count e.1) (bodyOf Tryz.prog e.1 e.2.2.1) e.2.2.2 := List.forall_mem_cons.2 ⟨lo_slices_symMergeCmpFunc_Count_127_3 mr, noneIn⟩
noncomputable def rd_slices_symMergeCmpFunc_Count_127_9 : List U → Rt
  | [.i v0, .i v1, .l v2] =>
    (.test (decide (v1 < w64 (v0 - (1 : Int))))
    (.test (inR (w64 (v1 + (1 : Int))) (ln v2))
    (.test (decide (Int.toNat (w64 (v1 + (1 : Int))) < List.length v2))
    (.test (inR v1 (ln v2))
    (.test (decide (Int.toNat v1 < List.length v2))
    (.test (inR v1 (ln v2))
    (.test (decide (Int.toNat v1 < List.length v2))
    (.test (inR (w64 (v1 + (1 : Int))) (ln (List.set v2 (Int.toNat v1) (setCells (el v2 v1) 0 [PV.lst 31 (cL (el v2 (w64 (v1 + (1 : Int)))) 0), pI (cI (el v2 (w64 (v1 + (1 : Int)))) 1)]))))
    (.test (decide (Int.toNat (w64 (v1 + (1 : Int))) < List.length (List.set v2 (Int.toNat v1) (setCells (el v2 v1) 0 [PV.lst 31 (cL (el v2 (w64 (v1 + (1 : Int)))) 0), pI (cI (el v2 (w64 (v1 + (1 : Int)))) 1)]))))
    (.next [.i v0, .i (w64 (v1 + (1 : Int))), .l (List.set (List.set v2 (Int.toNat v1) (setCells (el v2 v1) 0 [PV.lst 31 (cL (el v2 (w64 (v1 + (1 : Int)))) 0), pI (cI (el v2 (w64 (v1 + (1 : Int)))) 1)])) (Int.toNat (w64 (v1 + (1 : Int)))) (setCells (el (List.set v2 (Int.toNat v1) (setCells (el v2 v1) 0 [PV.lst 31 (cL (el v2 (w64 (v1 + (1 : Int)))) 0), pI (cI (el v2 (w64 (v1 + (1 : Int)))) 1)])) (w64 (v1 + (1 : Int)))) 0 [PV.lst 31 (cL (el v2 v1) 0), pI (cI (el v2 v1) 1)]))])
    .fail)
    .fail)
    .fail)
    .fail)
    .fail)
    .fail)
    .fail)
    .fail)
    (.stop 0 [.l v2]))
  | _ => .fail
def sp_slices_symMergeCmpFunc_Count_127_9 : LSp := ⟨220, ⟨[(0, .one (.all 0)), (10, .one (.i .i64)), (13, .one (.i .i64))], [.arr 49 true]⟩, [(.exit 2, ⟨[], [.arr 49 true]⟩)]⟩
set_option maxRecDepth 100000 in
theorem rq_slices_symMergeCmpFunc_Count_127_9 (mr : List U → Rt) (v0 : Int) (v1 : Int) (v2 : List (List PV)) : runK br Tryz.prog (callK br Tryz.prog (extT [(127, gF S_slices_symMergeCmpFunc_Count mr)] X8) M_slices_symMergeCmpFunc_Count L_slices_symMergeCmpFunc_Count (lsT ll_slices_symMergeCmpFunc_Count_127_3) 40) M_slices_symMergeCmpFunc_Count (lsT ll_slices_symMergeCmpFunc_Count_127_3 127 1) 40 1 (L_slices_symMergeCmpFunc_Count 127) (bodyOf Tryz.prog 127 9) (sp_slices_symMergeCmpFunc_Count_127_9.s.ts sp_slices_symMergeCmpFunc_Count_127_9.n [.i v0, .i v1, .l v2]) (sp_slices_symMergeCmpFunc_Count_127_9.s.h [.i v0, .i v1, .l v2]) (idc Tryz.prog 1 (L_slices_symMergeCmpFunc_Count 127) 9) =
    (rd_slices_symMergeCmpFunc_Count_127_9 [.i v0, .i v1, .l v2]).go br (fun us' => some (.normal, sp_slices_symMergeCmpFunc_Count_127_9.s.ts sp_slices_symMergeCmpFunc_Count_127_9.n us', sp_slices_symMergeCmpFunc_Count_127_9.s.h us')) sp_slices_symMergeCmpFunc_Count_127_9.fin := by
  rw [← callF_eq, ← runF_eq]; kernel_rfl
theorem lo_slices_symMergeCmpFunc_Count_127_9 {R : Type} (mr : List U → Rt) : LoopTells Tryz.prog (extT [(127, gF S_slices_symMergeCmpFunc_Count mr)] X8) M_slices_symMergeCmpFunc_Count L_slices_symMergeCmpFunc_Count 1 (L_slices_symMergeCmpFunc_Count 127) (bodyOf Tryz.prog 127 9) (gL (R := R) sp_slices_symMergeCmpFunc_Count_127_9 rd_slices_symMergeCmpFunc_Count_127_9 br) :=
  loopTold (callK_ev (loopsOK_list rids (lk_slices_symMergeCmpFunc_Count_127_3 mr)) 40) (lsokIn (loopsOK_list rids (lk_slices_symMergeCmpFunc_Count_127_3 mr)) 127 1 9) (by kernel_rfl) sp_slices_symMergeCmpFunc_Count_127_9 rd_slices_symMergeCmpFunc_Count_127_9 rfl (by kernel_rfl) (by
    intro us v h; unfold rd_slices_symMergeCmpFunc_Count_127_9 at h; split at h
    · rename_i v0 v1 v2; exact rq_slices_symMergeCmpFunc_Count_127_9 mr v0 v1 v2
    · cases h)
noncomputable abbrev ll_slices_symMergeCmpFunc_Count_127_9 {R : Type} : List (Nat × Nat × Nat × Smy R) := (127, 1, 9, gL sp_slices_symMergeCmpFunc_Count_127_9 rd_slices_symMergeCmpFunc_Count_127_9 br) :: ll_slices_symMergeCmpFunc_Count_127_3
theorem lk_slices_symMergeCmpFunc_Count_127_9 {R : Type} (mr : List U → Rt) : ∀ e ∈ ll_slices_symMergeCmpFunc_Count_127_9 (R := R), LoopTells Tryz.prog (extT [(127, gF S_slices_symMergeCmpFunc_Count mr)] X8) M_slices_symMergeCmpFunc_Count L_slices_symMergeCmpFunc_Count e.2.1 (L_slices_symMergeCmpFunc_Count e.1) (bodyOf Tryz.prog e.1 e.2.2.1) e.2.2.2 := List.forall_mem_cons.2 ⟨lo_slices_symMergeCmpFunc_Count_127_9 mr, (lk_slices_symMergeCmpFunc_Count_127_3 mr)⟩
noncomputable def rd_slices_symMergeCmpFunc_Count_127_15 : List U → Rt
  | [.i v0, .i v1, .i v2, .l v3] =>
    (.test (decide (v1 < v2))
    (.test (inR v0 (ln v3))
    (.test (decide (Int.toNat v0 < List.length v3))
    (.test (inR (w64 (Int.fdiv (IntKind.wrap IntKind.u64 (w64 (v1 + v2))) (2 : Int))) (ln v3))
    (.test (decide (Int.toNat (w64 (Int.fdiv (IntKind.wrap IntKind.u64 (w64 (v1 + v2))) (2 : Int))) < List.length v3))
    (let r0 : Rs := (Rt.res (m_row_Compare [U.l (cL (el v3 v0) 0), U.l (cL (el v3 (w64 (Int.fdiv (IntKind.wrap IntKind.u64 (w64 (v1 + v2))) (2 : Int)))) 0)]))
    (.test (ok r0 0)
    (.test (!decide (uI (out r0 0) 0 < (0 : Int)))
    (.next [.i v0, .i (w64 (w64 (Int.fdiv (IntKind.wrap IntKind.u64 (w64 (v1 + v2))) (2 : Int)) + (1 : Int))), .i v2, .l v3])
    (.next [.i v0, .i v1, .i (w64 (Int.fdiv (IntKind.wrap IntKind.u64 (w64 (v1 + v2))) (2 : Int))), .l v3]))
    .fail))
    .fail)
    .fail)
    .fail)
    .fail)
    (.stop 0 [.i v0, .i v1, .l v3]))
  | _ => .fail
def sp_slices_symMergeCmpFunc_Count_127_15 : LSp := ⟨220, ⟨[(0, .one (.all 0)), (2, .one (.i .i64)), (4, .fn 84 []), (14, .one (.i .i64)), (15, .one (.i .i64))], [.arr 49 true]⟩, [(.exit 4, ⟨[(0, .one (.all 0)), (2, .one (.i .i64)), (14, .one (.i .i64))], [.arr 49 true]⟩)]⟩
set_option maxRecDepth 100000 in
theorem rq_slices_symMergeCmpFunc_Count_127_15 (mr : List U → Rt) (v0 : Int) (v1 : Int) (v2 : Int) (v3 : List (List PV)) : runK br Tryz.prog (callK br Tryz.prog (extT [(127, gF S_slices_symMergeCmpFunc_Count mr)] X8) M_slices_symMergeCmpFunc_Count L_slices_symMergeCmpFunc_Count (lsT ll_slices_symMergeCmpFunc_Count_127_9) 40) M_slices_symMergeCmpFunc_Count (lsT ll_slices_symMergeCmpFunc_Count_127_9 127 1) 40 1 (L_slices_symMergeCmpFunc_Count 127) (bodyOf Tryz.prog 127 15) (sp_slices_symMergeCmpFunc_Count_127_15.s.ts sp_slices_symMergeCmpFunc_Count_127_15.n [.i v0, .i v1, .i v2, .l v3]) (sp_slices_symMergeCmpFunc_Count_127_15.s.h [.i v0, .i v1, .i v2, .l v3]) (idc Tryz.prog 1 (L_slices_symMergeCmpFunc_Count 127) 15) =
    (rd_slices_symMergeCmpFunc_Count_127_15 [.i v0, .i v1, .i v2, .l v3]).go br (fun us' => some (.normal, sp_slices_symMergeCmpFunc_Count_127_15.s.ts sp_slices_symMergeCmpFunc_Count_127_15.n us', sp_slices_symMergeCmpFunc_Count_127_15.s.h us')) sp_slices_symMergeCmpFunc_Count_127_15.fin := by
  rw [← callF_eq, ← runF_eq]; kernel_rfl
theorem lo_slices_symMergeCmpFunc_Count_127_15 {R : Type} (mr : List U → Rt) : LoopTells Tryz.prog (extT [(127, gF S_slices_symMergeCmpFunc_Count mr)] X8) M_slices_symMergeCmpFunc_Count L_slices_symMergeCmpFunc_Count 1 (L_slices_symMergeCmpFunc_Count 127) (bodyOf Tryz.prog 127 15) (gL (R := R) sp_slices_symMergeCmpFunc_Count_127_15 rd_slices_symMergeCmpFunc_Count_127_15 br) :=
  loopTold (callK_ev (loopsOK_list rids (lk_slices_symMergeCmpFunc_Count_127_9 mr)) 40) (lsokIn (loopsOK_list rids (lk_slices_symMergeCmpFunc_Count_127_9 mr)) 127 1 15) (by kernel_rfl) sp_slices_symMergeCmpFunc_Count_127_15 rd_slices_symMergeCmpFunc_Count_127_15 rfl (by kernel_rfl) (by
    intro us v h; unfold rd_slices_symMergeCmpFunc_Count_127_15 at h; split at h
    · rename_i v0 v1 v2 v3; exact rq_slices_symMergeCmpFunc_Count_127_15 mr v0 v1 v2 v3
    · cases h)
noncomputable abbrev ll_slices_symMergeCmpFunc_Count_127_15 {R : Type} : List (Nat × Nat × Nat × Smy R) := (127, 1, 15, gL sp_slices_symMergeCmpFunc_Count_127_15 rd_slices_symMergeCmpFunc_Count_127_15 br) :: ll_slices_symMergeCmpFunc_Count_127_9
theorem lk_slices_symMergeCmpFunc_Count_127_15 {R : Type} (mr : List U → Rt) : ∀ e ∈ ll_slices_symMergeCmpFunc_Count_127_15 (R := R), LoopTells Tryz.prog (extT [(127, gF S_slices_symMergeCmpFunc_Count mr)] X8) M_slices_symMergeCmpFunc_Count L_slices_symMergeCmpFunc_Count e.2.1 (L_slices_symMergeCmpFunc_Count e.1) (bodyOf Tryz.prog e.1 e.2.2.1) e.2.2.2 := List.forall_mem_cons.2 ⟨lo_slices_symMergeCmpFunc_Count_127_15 mr, (lk_slices_symMergeCmpFunc_Count_127_9 mr)⟩
noncomputable def rd_slices_symMergeCmpFunc_Count_127_21 : List U → Rt
  | [.i v0, .i v1, .l v2] =>
    (.test (decide (v1 > v0))
    (.test (inR (w64 (v1 - (1 : Int))) (ln v2))
    (.test (decide (Int.toNat (w64 (v1 - (1 : Int))) < List.length v2))
    (.test (inR v1 (ln v2))
    (.test (decide (Int.toNat v1 < List.length v2))
    (.test (inR v1 (ln v2))
    (.test (decide (Int.toNat v1 < List.length v2))
    (.test (inR (w64 (v1 - (1 : Int))) (ln (List.set v2 (Int.toNat v1) (setCells (el v2 v1) 0 [PV.lst 31 (cL (el v2 (w64 (v1 - (1 : Int)))) 0), pI (cI (el v2 (w64 (v1 - (1 : Int)))) 1)]))))
    (.test (decide (Int.toNat (w64 (v1 - (1 : Int))) < List.length (List.set v2 (Int.toNat v1) (setCells (el v2 v1) 0 [PV.lst 31 (cL (el v2 (w64 (v1 - (1 : Int)))) 0), pI (cI (el v2 (w64 (v1 - (1 : Int)))) 1)]))))
    (.next [.i v0, .i (w64 (v1 - (1 : Int))), .l (List.set (List.set v2 (Int.toNat v1) (setCells (el v2 v1) 0 [PV.lst 31 (cL (el v2 (w64 (v1 - (1 : Int)))) 0), pI (cI (el v2 (w64 (v1 - (1 : Int)))) 1)])) (Int.toNat (w64 (v1 - (1 : Int)))) (setCells (el (List.set v2 (Int.toNat v1) (setCells (el v2 v1) 0 [PV.lst 31 (cL (el v2 (w64 (v1 - (1 : Int)))) 0), pI (cI (el v2 (w64 (v1 - (1 : Int)))) 1)])) (w64 (v1 - (1 : Int)))) 0 [PV.lst 31 (cL (el v2 v1) 0), pI (cI (el v2 v1) 1)]))])
    .fail)
    .fail)
    .fail)
    .fail)
    .fail)
    .fail)
    .fail)
    .fail)
    (.stop 0 [.l v2]))
  | _ => .fail
def sp_slices_symMergeCmpFunc_Count_127_21 : LSp := ⟨220, ⟨[(0, .one (.all 0)), (14, .one (.i .i64)), (17, .one (.i .i64))], [.arr 49 true]⟩, [(.exit 6, ⟨[], [.arr 49 true]⟩)]⟩
set_option maxRecDepth 100000 in
theorem rq_slices_symMergeCmpFunc_Count_127_21 (mr : List U → Rt) (v0 : Int) (v1 : Int) (v2 : List (List PV)) : runK br Tryz.prog (callK br Tryz.prog (extT [(127, gF S_slices_symMergeCmpFunc_Count mr)] X8) M_slices_symMergeCmpFunc_Count L_slices_symMergeCmpFunc_Count (lsT ll_slices_symMergeCmpFunc_Count_127_15) 40) M_slices_symMergeCmpFunc_Count (lsT ll_slices_symMergeCmpFunc_Count_127_15 127 1) 40 1 (L_slices_symMergeCmpFunc_Count 127) (bodyOf Tryz.prog 127 21) (sp_slices_symMergeCmpFunc_Count_127_21.s.ts sp_slices_symMergeCmpFunc_Count_127_21.n [.i v0, .i v1, .l v2]) (sp_slices_symMergeCmpFunc_Count_127_21.s.h [.i v0, .i v1, .l v2]) (idc Tryz.prog 1 (L_slices_symMergeCmpFunc_Count 127) 21) =
    (rd_slices_symMergeCmpFunc_Count_127_21 [.i v0, .i v1, .l v2]).go br (fun us' => some (.normal, sp_slices_symMergeCmpFunc_Count_127_21.s.ts sp_slices_symMergeCmpFunc_Count_127_21.n us', sp_slices_symMergeCmpFunc_Count_127_21.s.h us')) sp_slices_symMergeCmpFunc_Count_127_21.fin := by
  rw [← callF_eq, ← runF_eq]; kernel_rfl
theorem lo_slices_symMergeCmpFunc_Count_127_21 {R : Type} (mr : List U → Rt) : LoopTells Tryz.prog (extT [(127, gF S_slices_symMergeCmpFunc_Count mr)] X8) M_slices_symMergeCmpFunc_Count L_slices_symMergeCmpFunc_Count 1 (L_slices_symMergeCmpFunc_Count 127) (bodyOf Tryz.prog 127 21) (gL (R := R) sp_slices_symMergeCmpFunc_Count_127_21 rd_slices_symMergeCmpFunc_Count_127_21 br) :=
  loopTold (callK_ev (loopsOK_list rids (lk_slices_symMergeCmpFunc_Count_127_15 mr)) 40) (lsokIn (loopsOK_list rids (lk_slices_symMergeCmpFunc_Count_127_15 mr)) 127 1 21) (by kernel_rfl) sp_slices_symMergeCmpFunc_Count_127_21 rd_slices_symMergeCmpFunc_Count_127_21 rfl (by kernel_rfl) (by
    intro us v h; unfold rd_slices_symMergeCmpFunc_Count_127_21 at h; split at h
    · rename_i v0 v1 v2; exact rq_slices_symMergeCmpFunc_Count_127_21 mr v0 v1 v2
    · cases h)
noncomputable abbrev ll_slices_symMergeCmpFunc_Count_127_21 {R : Type} : List (Nat × Nat × Nat × Smy R) := (127, 1, 21, gL sp_slices_symMergeCmpFunc_Count_127_21 rd_slices_symMergeCmpFunc_Count_127_21 br) :: ll_slices_symMergeCmpFunc_Count_127_15
theorem lk_slices_symMergeCmpFunc_Count_127_21 {R : Type} (mr : List U → Rt) : ∀ e ∈ ll_slices_symMergeCmpFunc_Count_127_21 (R := R), LoopTells Tryz.prog (extT [(127, gF S_slices_symMergeCmpFunc_Count mr)] X8) M_slices_symMergeCmpFunc_Count L_slices_symMergeCmpFunc_Count e.2.1 (L_slices_symMergeCmpFunc_Count e.1) (bodyOf Tryz.prog e.1 e.2.2.1) e.2.2.2 := List.forall_mem_cons.2 ⟨lo_slices_symMergeCmpFunc_Count_127_21 mr, (lk_slices_symMergeCmpFunc_Count_127_15 mr)⟩
noncomputable def rd_slices_symMergeCmpFunc_Count_127_33 : List U → Rt
  | [.i v0, .i v1, .i v2, .i v3, .i v4, .i v5, .i v6, .i v7, .l v8] =>
    (.test (decide (v5 < v6))
    (.test (inR (w64 (v7 - w64 (Int.fdiv (IntKind.wrap IntKind.u64 (w64 (v5 + v6))) (2 : Int)))) (ln v8))
    (.test (decide (Int.toNat (w64 (v7 - w64 (Int.fdiv (IntKind.wrap IntKind.u64 (w64 (v5 + v6))) (2 : Int)))) < List.length v8))
    (.test (inR (w64 (Int.fdiv (IntKind.wrap IntKind.u64 (w64 (v5 + v6))) (2 : Int))) (ln v8))
    (.test (decide (Int.toNat (w64 (Int.fdiv (IntKind.wrap IntKind.u64 (w64 (v5 + v6))) (2 : Int))) < List.length v8))
    (let r0 : Rs := (Rt.res (m_row_Compare [U.l (cL (el v8 (w64 (v7 - w64 (Int.fdiv (IntKind.wrap IntKind.u64 (w64 (v5 + v6))) (2 : Int))))) 0), U.l (cL (el v8 (w64 (Int.fdiv (IntKind.wrap IntKind.u64 (w64 (v5 + v6))) (2 : Int)))) 0)]))
    (.test (ok r0 0)
    (.test (!decide (uI (out r0 0) 0 < (0 : Int)))
    (.next [.i v0, .i v1, .i v2, .i v3, .i v4, .i (w64 (w64 (Int.fdiv (IntKind.wrap IntKind.u64 (w64 (v5 + v6))) (2 : Int)) + (1 : Int))), .i v6, .i v7, .l v8])
    (.next [.i v0, .i v1, .i v2, .i v3, .i v4, .i v5, .i (w64 (Int.fdiv (IntKind.wrap IntKind.u64 (w64 (v5 + v6))) (2 : Int))), .i v7, .l v8]))
    .fail))
    .fail)
    .fail)
    .fail)
    .fail)
    (.stop 0 [.i v0, .i v1, .i v2, .i v3, .i v4, .i v5, .l v8]))
  | _ => .fail
def sp_slices_symMergeCmpFunc_Count_127_33 : LSp := ⟨220, ⟨[(0, .one (.all 0)), (1, .one (.i .i64)), (2, .one (.i .i64)), (3, .one (.i .i64)), (4, .fn 84 []), (18, .one (.i .i64)), (19, .one (.i .i64)), (20, .one (.i .i64)), (21, .one (.i .i64)), (22, .one (.i .i64))], [.arr 49 true]⟩, [(.exit 8, ⟨[(0, .one (.all 0)), (1, .one (.i .i64)), (2, .one (.i .i64)), (3, .one (.i .i64)), (4, .fn 84 []), (18, .one (.i .i64)), (19, .one (.i .i64)), (20, .one (.i .i64))], [.arr 49 true]⟩)]⟩
set_option maxRecDepth 100000 in
theorem rq_slices_symMergeCmpFunc_Count_127_33 (mr : List U → Rt) (v0 : Int) (v1 : Int) (v2 : Int) (v3 : Int) (v4 : Int) (v5 : Int) (v6 : Int) (v7 : Int) (v8 : List (List PV)) : runK br Tryz.prog (callK br Tryz.prog (extT [(127, gF S_slices_symMergeCmpFunc_Count mr)] X8) M_slices_symMergeCmpFunc_Count L_slices_symMergeCmpFunc_Count (lsT ll_slices_symMergeCmpFunc_Count_127_21) 40) M_slices_symMergeCmpFunc_Count (lsT ll_slices_symMergeCmpFunc_Count_127_21 127 1) 40 1 (L_slices_symMergeCmpFunc_Count 127) (bodyOf Tryz.prog 127 33) (sp_slices_symMergeCmpFunc_Count_127_33.s.ts sp_slices_symMergeCmpFunc_Count_127_33.n [.i v0, .i v1, .i v2, .i v3, .i v4, .i v5, .i v6, .i v7, .l v8]) (sp_slices_symMergeCmpFunc_Count_127_33.s.h [.i v0, .i v1, .i v2, .i v3, .i v4, .i v5, .i v6, .i v7, .l v8]) (idc Tryz.prog 1 (L_slices_symMergeCmpFunc_Count 127) 33) =
    (rd_slices_symMergeCmpFunc_Count_127_33 [.i v0, .i v1, .i v2, .i v3, .i v4, .i v5, .i v6, .i v7, .l v8]).go br (fun us' => some (.normal, sp_slices_symMergeCmpFunc_Count_127_33.s.ts sp_slices_symMergeCmpFunc_Count_127_33.n us', sp_slices_symMergeCmpFunc_Count_127_33.s.h us')) sp_slices_symMergeCmpFunc_Count_127_33.fin := by
  rw [← callF_eq, ← runF_eq]; kernel_rfl
theorem lo_slices_symMergeCmpFunc_Count_127_33 {R : Type} (mr : List U → Rt) : LoopTells Tryz.prog (extT [(127, gF S_slices_symMergeCmpFunc_Count mr)] X8) M_slices_symMergeCmpFunc_Count L_slices_symMergeCmpFunc_Count 1 (L_slices_symMergeCmpFunc_Count 127) (bodyOf Tryz.prog 127 33) (gL (R := R) sp_slices_symMergeCmpFunc_Count_127_33 rd_slices_symMergeCmpFunc_Count_127_33 br) :=
  loopTold (callK_ev (loopsOK_list rids (lk_slices_symMergeCmpFunc_Count_127_21 mr)) 40) (lsokIn (loopsOK_list rids (lk_slices_symMergeCmpFunc_Count_127_21 mr)) 127 1 33) (by kernel_rfl) sp_slices_symMergeCmpFunc_Count_127_33 rd_slices_symMergeCmpFunc_Count_127_33 rfl (by kernel_rfl) (by
    intro us v h; unfold rd_slices_symMergeCmpFunc_Count_127_33 at h; split at h
    · rename_i v0 v1 v2 v3 v4 v5 v6 v7 v8; exact rq_slices_symMergeCmpFunc_Count_127_33 mr v0 v1 v2 v3 v4 v5 v6 v7 v8
    · cases h)
noncomputable abbrev ll_slices_symMergeCmpFunc_Count_127_33 {R : Type} : List (Nat × Nat × Nat × Smy R) := (127, 1, 33, gL sp_slices_symMergeCmpFunc_Count_127_33 rd_slices_symMergeCmpFunc_Count_127_33 br) :: ll_slices_symMergeCmpFunc_Count_127_21
theorem lk_slices_symMergeCmpFunc_Count_127_33 {R : Type} (mr : List U → Rt) : ∀ e ∈ ll_slices_symMergeCmpFunc_Count_127_33 (R := R), LoopTells Tryz.prog (extT [(127, gF S_slices_symMergeCmpFunc_Count mr)] X8) M_slices_symMergeCmpFunc_Count L_slices_symMergeCmpFunc_Count e.2.1 (L_slices_symMergeCmpFunc_Count e.1) (bodyOf Tryz.prog e.1 e.2.2.1) e.2.2.2 := List.forall_mem_cons.2 ⟨lo_slices_symMergeCmpFunc_Count_127_33 mr, (lk_slices_symMergeCmpFunc_Count_127_21 mr)⟩
noncomputable def s_slices_symMergeCmpFunc_Count (mr : List U → Rt) : List U → Rt
  | [.i v0, .i v1, .i v2, .l v3] =>
    (.test (w64 (v1 - v0) == (1 : Int))
    (let r0 : Rs := (lres rd_slices_symMergeCmpFunc_Count_127_3 [U.i v0, U.i v1, U.i v2, U.l v3])
    (.test (ok r0 0)
    (let r1 : Rs := (lres rd_slices_symMergeCmpFunc_Count_127_9 [U.i (uI (out r0 0) 1), U.i (uI (out r0 0) 0), U.l (uL (out r0 0) 2)])
    (.test (ok r1 0)
    (.stop 0 [.l (uL (out r1 0) 0)])
    .fail))
    .fail))
    (.test (w64 (v2 - v1) == (1 : Int))
    (let r2 : Rs := (lres rd_slices_symMergeCmpFunc_Count_127_15 [U.i v1, U.i v0, U.i v1, U.l v3])
    (.test (ok r2 0)
    (let r3 : Rs := (lres rd_slices_symMergeCmpFunc_Count_127_21 [U.i (uI (out r2 0) 1), U.i (uI (out r2 0) 0), U.l (uL (out r2 0) 2)])
    (.test (ok r3 0)
    (.stop 0 [.l (uL (out r3 0) 0)])
    .fail))
    .fail))
    (.test (decide (v1 > w64 (Int.fdiv (IntKind.wrap IntKind.u64 (w64 (v0 + v2))) (2 : Int))))
    (let r4 : Rs := (lres rd_slices_symMergeCmpFunc_Count_127_33 [U.i v0, U.i v1, U.i v2, U.i (w64 (Int.fdiv (IntKind.wrap IntKind.u64 (w64 (v0 + v2))) (2 : Int))), U.i (w64 (w64 (Int.fdiv (IntKind.wrap IntKind.u64 (w64 (v0 + v2))) (2 : Int)) + v1)), U.i (w64 (w64 (w64 (Int.fdiv (IntKind.wrap IntKind.u64 (w64 (v0 + v2))) (2 : Int)) + v1) - v2)), U.i (w64 (Int.fdiv (IntKind.wrap IntKind.u64 (w64 (v0 + v2))) (2 : Int))), U.i (w64 (w64 (w64 (Int.fdiv (IntKind.wrap IntKind.u64 (w64 (v0 + v2))) (2 : Int)) + v1) - (1 : Int))), U.l v3])
    (.test (ok r4 0)
    (.test (decide (uI (out r4 0) 5 < uI (out r4 0) 1))
    (.test (decide (uI (out r4 0) 1 < w64 (uI (out r4 0) 4 - uI (out r4 0) 5)))
    (let r5 : Rs := (Rt.res (m_slices_rotateCmpFunc_Count [U.i (uI (out r4 0) 5), U.i (uI (out r4 0) 1), U.i (w64 (uI (out r4 0) 4 - uI (out r4 0) 5)), U.l (uL (out r4 0) 6)]))
    (.test (ok r5 0)
    (.test (decide (uI (out r4 0) 0 < uI (out r4 0) 5))
    (.test (decide (uI (out r4 0) 5 < uI (out r4 0) 3))
    (let r6 : Rs := (Rt.res (mr [U.i (uI (out r4 0) 0), U.i (uI (out r4 0) 5), U.i (uI (out r4 0) 3), U.l (uL (out r5 0) 0)]))
    (.test (ok r6 0)
    (.test (decide (uI (out r4 0) 3 < w64 (uI (out r4 0) 4 - uI (out r4 0) 5)))
    (.test (decide (w64 (uI (out r4 0) 4 - uI (out r4 0) 5) < uI (out r4 0) 2))
    (let r7 : Rs := (Rt.res (mr [U.i (uI (out r4 0) 3), U.i (w64 (uI (out r4 0) 4 - uI (out r4 0) 5)), U.i (uI (out r4 0) 2), U.l (uL (out r6 0) 0)]))
    (.test (ok r7 0)
    (.stop 0 [.l (uL (out r7 0) 0)])
    .fail))
    (.stop 0 [.l (uL (out r6 0) 0)]))
    (.stop 0 [.l (uL (out r6 0) 0)]))
    .fail))
    (.test (decide (uI (out r4 0) 3 < w64 (uI (out r4 0) 4 - uI (out r4 0) 5)))
    (.test (decide (w64 (uI (out r4 0) 4 - uI (out r4 0) 5) < uI (out r4 0) 2))
    (let r8 : Rs := (Rt.res (mr [U.i (uI (out r4 0) 3), U.i (w64 (uI (out r4 0) 4 - uI (out r4 0) 5)), U.i (uI (out r4 0) 2), U.l (uL (out r5 0) 0)]))
    (.test (ok r8 0)
    (.stop 0 [.l (uL (out r8 0) 0)])
    .fail))
    (.stop 0 [.l (uL (out r5 0) 0)]))
    (.stop 0 [.l (uL (out r5 0) 0)])))
    (.test (decide (uI (out r4 0) 3 < w64 (uI (out r4 0) 4 - uI (out r4 0) 5)))
    (.test (decide (w64 (uI (out r4 0) 4 - uI (out r4 0) 5) < uI (out r4 0) 2))
    (let r9 : Rs := (Rt.res (mr [U.i (uI (out r4 0) 3), U.i (w64 (uI (out r4 0) 4 - uI (out r4 0) 5)), U.i (uI (out r4 0) 2), U.l (uL (out r5 0) 0)]))
    (.test (ok r9 0)
    (.stop 0 [.l (uL (out r9 0) 0)])
    .fail))
    (.stop 0 [.l (uL (out r5 0) 0)]))
    (.stop 0 [.l (uL (out r5 0) 0)])))
    .fail))
    (.test (decide (uI (out r4 0) 0 < uI (out r4 0) 5))
    (.test (decide (uI (out r4 0) 5 < uI (out r4 0) 3))
    (let r10 : Rs := (Rt.res (mr [U.i (uI (out r4 0) 0), U.i (uI (out r4 0) 5), U.i (uI (out r4 0) 3), U.l (uL (out r4 0) 6)]))
    (.test (ok r10 0)
    (.test (decide (uI (out r4 0) 3 < w64 (uI (out r4 0) 4 - uI (out r4 0) 5)))
    (.test (decide (w64 (uI (out r4 0) 4 - uI (out r4 0) 5) < uI (out r4 0) 2))
    (let r11 : Rs := (Rt.res (mr [U.i (uI (out r4 0) 3), U.i (w64 (uI (out r4 0) 4 - uI (out r4 0) 5)), U.i (uI (out r4 0) 2), U.l (uL (out r10 0) 0)]))
    (.test (ok r11 0)
    (.stop 0 [.l (uL (out r11 0) 0)])
    .fail))
    (.stop 0 [.l (uL (out r10 0) 0)]))
    (.stop 0 [.l (uL (out r10 0) 0)]))
    .fail))
    (.test (decide (uI (out r4 0) 3 < w64 (uI (out r4 0) 4 - uI (out r4 0) 5)))
    (.test (decide (w64 (uI (out r4 0) 4 - uI (out r4 0) 5) < uI (out r4 0) 2))
    (let r12 : Rs := (Rt.res (mr [U.i (uI (out r4 0) 3), U.i (w64 (uI (out r4 0) 4 - uI (out r4 0) 5)), U.i (uI (out r4 0) 2), U.l (uL (out r4 0) 6)]))
    (.test (ok r12 0)
    (.stop 0 [.l (uL (out r12 0) 0)])
    .fail))
    (.stop 0 [.l (uL (out r4 0) 6)]))
    (.stop 0 [.l (uL (out r4 0) 6)])))
    (.test (decide (uI (out r4 0) 3 < w64 (uI (out r4 0) 4 - uI (out r4 0) 5)))
    (.test (decide (w64 (uI (out r4 0) 4 - uI (out r4 0) 5) < uI (out r4 0) 2))
    (let r13 : Rs := (Rt.res (mr [U.i (uI (out r4 0) 3), U.i (w64 (uI (out r4 0) 4 - uI (out r4 0) 5)), U.i (uI (out r4 0) 2), U.l (uL (out r4 0) 6)]))
    (.test (ok r13 0)
    (.stop 0 [.l (uL (out r13 0) 0)])
    .fail))
    (.stop 0 [.l (uL (out r4 0) 6)]))
    (.stop 0 [.l (uL (out r4 0) 6)]))))
    (.test (decide (uI (out r4 0) 0 < uI (out r4 0) 5))
    (.test (decide (uI (out r4 0) 5 < uI (out r4 0) 3))
    (let r14 : Rs := (Rt.res (mr [U.i (uI (out r4 0) 0), U.i (uI (out r4 0) 5), U.i (uI (out r4 0) 3), U.l (uL (out r4 0) 6)]))
    (.test (ok r14 0)
    (.test (decide (uI (out r4 0) 3 < w64 (uI (out r4 0) 4 - uI (out r4 0) 5)))
    (.test (decide (w64 (uI (out r4 0) 4 - uI (out r4 0) 5) < uI (out r4 0) 2))
    (let r15 : Rs := (Rt.res (mr [U.i (uI (out r4 0) 3), U.i (w64 (uI (out r4 0) 4 - uI (out r4 0) 5)), U.i (uI (out r4 0) 2), U.l (uL (out r14 0) 0)]))
    (.test (ok r15 0)
    (.stop 0 [.l (uL (out r15 0) 0)])
    .fail))
    (.stop 0 [.l (uL (out r14 0) 0)]))
    (.stop 0 [.l (uL (out r14 0) 0)]))
    .fail))
    (.test (decide (uI (out r4 0) 3 < w64 (uI (out r4 0) 4 - uI (out r4 0) 5)))
    (.test (decide (w64 (uI (out r4 0) 4 - uI (out r4 0) 5) < uI (out r4 0) 2))
    (let r16 : Rs := (Rt.res (mr [U.i (uI (out r4 0) 3), U.i (w64 (uI (out r4 0) 4 - uI (out r4 0) 5)), U.i (uI (out r4 0) 2), U.l (uL (out r4 0) 6)]))
    (.test (ok r16 0)
    (.stop 0 [.l (uL (out r16 0) 0)])
    .fail))
    (.stop 0 [.l (uL (out r4 0) 6)]))
    (.stop 0 [.l (uL (out r4 0) 6)])))
    (.test (decide (uI (out r4 0) 3 < w64 (uI (out r4 0) 4 - uI (out r4 0) 5)))
    (.test (decide (w64 (uI (out r4 0) 4 - uI (out r4 0) 5) < uI (out r4 0) 2))
    (let r17 : Rs := (Rt.res (mr [U.i (uI (out r4 0) 3), U.i (w64 (uI (out r4 0) 4 - uI (out r4 0) 5)), U.i (uI (out r4 0) 2), U.l (uL (out r4 0) 6)]))
    (.test (ok r17 0)
    (.stop 0 [.l (uL (out r17 0) 0)])
    .fail))
    (.stop 0 [.l (uL (out r4 0) 6)]))
    (.stop 0 [.l (uL (out r4 0) 6)]))))
    .fail))
    (let r18 : Rs := (lres rd_slices_symMergeCmpFunc_Count_127_33 [U.i v0, U.i v1, U.i v2, U.i (w64 (Int.fdiv (IntKind.wrap IntKind.u64 (w64 (v0 + v2))) (2 : Int))), U.i (w64 (w64 (Int.fdiv (IntKind.wrap IntKind.u64 (w64 (v0 + v2))) (2 : Int)) + v1)), U.i v0, U.i v1, U.i (w64 (w64 (w64 (Int.fdiv (IntKind.wrap IntKind.u64 (w64 (v0 + v2))) (2 : Int)) + v1) - (1 : Int))), U.l v3])
    (.test (ok r18 0)
    (.test (decide (uI (out r18 0) 5 < uI (out r18 0) 1))
    (.test (decide (uI (out r18 0) 1 < w64 (uI (out r18 0) 4 - uI (out r18 0) 5)))
    (let r19 : Rs := (Rt.res (m_slices_rotateCmpFunc_Count [U.i (uI (out r18 0) 5), U.i (uI (out r18 0) 1), U.i (w64 (uI (out r18 0) 4 - uI (out r18 0) 5)), U.l (uL (out r18 0) 6)]))
    (.test (ok r19 0)
    (.test (decide (uI (out r18 0) 0 < uI (out r18 0) 5))
    (.test (decide (uI (out r18 0) 5 < uI (out r18 0) 3))
    (let r20 : Rs := (Rt.res (mr [U.i (uI (out r18 0) 0), U.i (uI (out r18 0) 5), U.i (uI (out r18 0) 3), U.l (uL (out r19 0) 0)]))
    (.test (ok r20 0)
    (.test (decide (uI (out r18 0) 3 < w64 (uI (out r18 0) 4 - uI (out r18 0) 5)))
    (.test (decide (w64 (uI (out r18 0) 4 - uI (out r18 0) 5) < uI (out r18 0) 2))
    (let r21 : Rs := (Rt.res (mr [U.i (uI (out r18 0) 3), U.i (w64 (uI (out r18 0) 4 - uI (out r18 0) 5)), U.i (uI (out r18 0) 2), U.l (uL (out r20 0) 0)]))
    (.test (ok r21 0)
    (.stop 0 [.l (uL (out r21 0) 0)])
    .fail))
    (.stop 0 [.l (uL (out r20 0) 0)]))
    (.stop 0 [.l (uL (out r20 0) 0)]))
    .fail))
    (.test (decide (uI (out r18 0) 3 < w64 (uI (out r18 0) 4 - uI (out r18 0) 5)))
    (.test (decide (w64 (uI (out r18 0) 4 - uI (out r18 0) 5) < uI (out r18 0) 2))
    (let r22 : Rs := (Rt.res (mr [U.i (uI (out r18 0) 3), U.i (w64 (uI (out r18 0) 4 - uI (out r18 0) 5)), U.i (uI (out r18 0) 2), U.l (uL (out r19 0) 0)]))
    (.test (ok r22 0)
    (.stop 0 [.l (uL (out r22 0) 0)])
    .fail))
    (.stop 0 [.l (uL (out r19 0) 0)]))
    (.stop 0 [.l (uL (out r19 0) 0)])))
    (.test (decide (uI (out r18 0) 3 < w64 (uI (out r18 0) 4 - uI (out r18 0) 5)))
    (.test (decide (w64 (uI (out r18 0) 4 - uI (out r18 0) 5) < uI (out r18 0) 2))
    (let r23 : Rs := (Rt.res (mr [U.i (uI (out r18 0) 3), U.i (w64 (uI (out r18 0) 4 - uI (out r18 0) 5)), U.i (uI (out r18 0) 2), U.l (uL (out r19 0) 0)]))
    (.test (ok r23 0)
    (.stop 0 [.l (uL (out r23 0) 0)])
    .fail))
    (.stop 0 [.l (uL (out r19 0) 0)]))
    (.stop 0 [.l (uL (out r19 0) 0)])))
    .fail))
    (.test (decide (uI (out r18 0) 0 < uI (out r18 0) 5))
    (.test (decide (uI (out r18 0) 5 < uI (out r18 0) 3))
    (let r24 : Rs := (Rt.res (mr [U.i (uI (out r18 0) 0), U.i (uI (out r18 0) 5), U.i (uI (out r18 0) 3), U.l (uL (out r18 0) 6)]))
    (.test (ok r24 0)
    (.test (decide (uI (out r18 0) 3 < w64 (uI (out r18 0) 4 - uI (out r18 0) 5)))
    (.test (decide (w64 (uI (out r18 0) 4 - uI (out r18 0) 5) < uI (out r18 0) 2))
    (let r25 : Rs := (Rt.res (mr [U.i (uI (out r18 0) 3), U.i (w64 (uI (out r18 0) 4 - uI (out r18 0) 5)), U.i (uI (out r18 0) 2), U.l (uL (out r24 0) 0)]))
    (.test (ok r25 0)
    (.stop 0 [.l (uL (out r25 0) 0)])
    .fail))
    (.stop 0 [.l (uL (out r24 0) 0)]))
    (.stop 0 [.l (uL (out r24 0) 0)]))
    .fail))
    (.test (decide (uI (out r18 0) 3 < w64 (uI (out r18 0) 4 - uI (out r18 0) 5)))
    (.test (decide (w64 (uI (out r18 0) 4 - uI (out r18 0) 5) < uI (out r18 0) 2))
    (let r26 : Rs := (Rt.res (mr [U.i (uI (out r18 0) 3), U.i (w64 (uI (out r18 0) 4 - uI (out r18 0) 5)), U.i (uI (out r18 0) 2), U.l (uL (out r18 0) 6)]))
    (.test (ok r26 0)
    (.stop 0 [.l (uL (out r26 0) 0)])
    .fail))
    (.stop 0 [.l (uL (out r18 0) 6)]))
    (.stop 0 [.l (uL (out r18 0) 6)])))
    (.test (decide (uI (out r18 0) 3 < w64 (uI (out r18 0) 4 - uI (out r18 0) 5)))
    (.test (decide (w64 (uI (out r18 0) 4 - uI (out r18 0) 5) < uI (out r18 0) 2))
    (let r27 : Rs := (Rt.res (mr [U.i (uI (out r18 0) 3), U.i (w64 (uI (out r18 0) 4 - uI (out r18 0) 5)), U.i (uI (out r18 0) 2), U.l (uL (out r18 0) 6)]))
    (.test (ok r27 0)
    (.stop 0 [.l (uL (out r27 0) 0)])
    .fail))
    (.stop 0 [.l (uL (out r18 0) 6)]))
    (.stop 0 [.l (uL (out r18 0) 6)]))))
    (.test (decide (uI (out r18 0) 0 < uI (out r18 0) 5))
    (.test (decide (uI (out r18 0) 5 < uI (out r18 0) 3))
    (let r28 : Rs := (Rt.res (mr [U.i (uI (out r18 0) 0), U.i (uI (out r18 0) 5), U.i (uI (out r18 0) 3), U.l (uL (out r18 0) 6)]))
    (.test (ok r28 0)
    (.test (decide (uI (out r18 0) 3 < w64 (uI (out r18 0) 4 - uI (out r18 0) 5)))
    (.test (decide (w64 (uI (out r18 0) 4 - uI (out r18 0) 5) < uI (out r18 0) 2))
    (let r29 : Rs := (Rt.res (mr [U.i (uI (out r18 0) 3), U.i (w64 (uI (out r18 0) 4 - uI (out r18 0) 5)), U.i (uI (out r18 0) 2), U.l (uL (out r28 0) 0)]))
    (.test (ok r29 0)
    (.stop 0 [.l (uL (out r29 0) 0)])
    .fail))
    (.stop 0 [.l (uL (out r28 0) 0)]))
    (.stop 0 [.l (uL (out r28 0) 0)]))
    .fail))
    (.test (decide (uI (out r18 0) 3 < w64 (uI (out r18 0) 4 - uI (out r18 0) 5)))
    (.test (decide (w64 (uI (out r18 0) 4 - uI (out r18 0) 5) < uI (out r18 0) 2))
    (let r30 : Rs := (Rt.res (mr [U.i (uI (out r18 0) 3), U.i (w64 (uI (out r18 0) 4 - uI (out r18 0) 5)), U.i (uI (out r18 0) 2), U.l (uL (out r18 0) 6)]))
    (.test (ok r30 0)
    (.stop 0 [.l (uL (out r30 0) 0)])
    .fail))
    (.stop 0 [.l (uL (out r18 0) 6)]))
    (.stop 0 [.l (uL (out r18 0) 6)])))
    (.test (decide (uI (out r18 0) 3 < w64 (uI (out r18 0) 4 - uI (out r18 0) 5)))
    (.test (decide (w64 (uI (out r18 0) 4 - uI (out r18 0) 5) < uI (out r18 0) 2))
    (let r31 : Rs := (Rt.res (mr [U.i (uI (out r18 0) 3), U.i (w64 (uI (out r18 0) 4 - uI (out r18 0) 5)), U.i (uI (out r18 0) 2), U.l (uL (out r18 0) 6)]))
    (.test (ok r31 0)
    (.stop 0 [.l (uL (out r31 0) 0)])
    .fail))
    (.stop 0 [.l (uL (out r18 0) 6)]))
    (.stop 0 [.l (uL (out r18 0) 6)]))))
    .fail)))))
  | _ => .fail
noncomputable def m_slices_symMergeCmpFunc_Count : List U → Rt := recM s_slices_symMergeCmpFunc_Count 64
set_option maxRecDepth 100000 in
theorem q_slices_symMergeCmpFunc_Count (mr : List U → Rt) (v0 : Int) (v1 : Int) (v2 : Int) (v3 : List (List PV)) : callKB br Tryz.prog (extT [(127, gF S_slices_symMergeCmpFunc_Count mr)] X8) M_slices_symMergeCmpFunc_Count L_slices_symMergeCmpFunc_Count (lsT ll_slices_symMergeCmpFunc_Count_127_33) 60 127 (encs [.i v0, .i v1, .i v2, .l v3] 0 S_slices_symMergeCmpFunc_Count.ap) (encH [.i v0, .i v1, .i v2, .l v3] (ws S_slices_symMergeCmpFunc_Count.ap) S_slices_symMergeCmpFunc_Count.ah) (fun y => fixR Tryz.prog S_slices_symMergeCmpFunc_Count.plan S_slices_symMergeCmpFunc_Count.ah.length y) =
    (s_slices_symMergeCmpFunc_Count mr [.i v0, .i v1, .i v2, .l v3]).go br (fun _ => none) S_slices_symMergeCmpFunc_Count.fin := by
  rw [← callFB_eq]; kernel_rfl
set_option maxRecDepth 100000 in
theorem es_slices_symMergeCmpFunc_Count (mr : List U → Rt) (hr : EOK Tryz.prog 127 (gF S_slices_symMergeCmpFunc_Count mr)) : EOK Tryz.prog 127 (gF S_slices_symMergeCmpFunc_Count (s_slices_symMergeCmpFunc_Count mr)) :=
  eokToldB mixed named (xok1 x8 hr) (loopsOK_list rids (lk_slices_symMergeCmpFunc_Count_127_33 mr)) 60 S_slices_symMergeCmpFunc_Count (s_slices_symMergeCmpFunc_Count mr) (by
    intro us v h; unfold s_slices_symMergeCmpFunc_Count at h; split at h
    · rename_i v0 v1 v2 v3; exact q_slices_symMergeCmpFunc_Count mr v0 v1 v2 v3
    · cases h)
theorem e_slices_symMergeCmpFunc_Count : EOK Tryz.prog 127 (gF S_slices_symMergeCmpFunc_Count m_slices_symMergeCmpFunc_Count) := eokRec es_slices_symMergeCmpFunc_Count 64
noncomputable abbrev X9 : Ext := extT [(127, (gF S_slices_symMergeCmpFunc_Count m_slices_symMergeCmpFunc_Count))] X8
theorem x9 : XOK Tryz.prog X9 := xok1 x8 e_slices_symMergeCmpFunc_Count

/-- slices.stableCmpFunc[levee/api.Count] -/
def L_slices_stableCmpFunc_Count : FuncId → Nat → Option (List Nat) := liveT [(110, 2, [0, 1, 2, 6, 7, 8]), (110, 1000002, [0, 1, 2, 6, 7]), (110, 2000002, []), (110, 9, [0, 1, 2, 6, 7, 8]), (110, 1000009, [0, 1, 2, 6, 7]), (110, 2000009, []), (110, 7, [0, 1, 2, 6]), (110, 1000007, []), (110, 2000007, [])]
def M_slices_stableCmpFunc_Count : FuncId → Bool := fun f => f == 127 || f == 126
noncomputable def rd_slices_stableCmpFunc_Count_110_2 : List U → Rt
  | [.i v0, .i v1, .i v2, .i v3, .l v4] =>
    (.test (decide (v3 ≤ v0))
    (let r0 : Rs := (Rt.res (m_slices_insertionSortCmpFunc_Count [U.i v2, U.i v3, U.l v4]))
    (.test (ok r0 0)
    (.next [.i v0, .i v1, .i v3, .i (w64 (v3 + v1)), .l (uL (out r0 0) 0)])
    .fail))
    (.stop 0 [.i v0, .i v1, .i v2, .l v4]))
  | _ => .fail
def sp_slices_stableCmpFunc_Count_110_2 : LSp := ⟨63, ⟨[(0, .one (.all 0)), (1, .one (.i .i64)), (2, .fn 84 []), (6, .one (.i .i64)), (7, .one (.i .i64)), (8, .one (.i .i64))], [.arr 49 true]⟩, [(.exit 0, ⟨[(0, .one (.all 0)), (1, .one (.i .i64)), (2, .fn 84 []), (6, .one (.i .i64)), (7, .one (.i .i64))], [.arr 49 true]⟩)]⟩
set_option maxRecDepth 100000 in
theorem rq_slices_stableCmpFunc_Count_110_2 (v0 : Int) (v1 : Int) (v2 : Int) (v3 : Int) (v4 : List (List PV)) : runK br Tryz.prog (callK br Tryz.prog X9 M_slices_stableCmpFunc_Count L_slices_stableCmpFunc_Count (lsT []) 40) M_slices_stableCmpFunc_Count (lsT [] 110 1) 40 1 (L_slices_stableCmpFunc_Count 110) (bodyOf Tryz.prog 110 2) (sp_slices_stableCmpFunc_Count_110_2.s.ts sp_slices_stableCmpFunc_Count_110_2.n [.i v0, .i v1, .i v2, .i v3, .l v4]) (sp_slices_stableCmpFunc_Count_110_2.s.h [.i v0, .i v1, .i v2, .i v3, .l v4]) (idc Tryz.prog 1 (L_slices_stableCmpFunc_Count 110) 2) =
    (rd_slices_stableCmpFunc_Count_110_2 [.i v0, .i v1, .i v2, .i v3, .l v4]).go br (fun us' => some (.normal, sp_slices_stableCmpFunc_Count_110_2.s.ts sp_slices_stableCmpFunc_Count_110_2.n us', sp_slices_stableCmpFunc_Count_110_2.s.h us')) sp_slices_stableCmpFunc_Count_110_2.fin := by
  rw [← callF_eq, ← runF_eq]; kernel_rfl
theorem lo_slices_stableCmpFunc_Count_110_2 {R : Type} : LoopTells Tryz.prog X9 M_slices_stableCmpFunc_Count L_slices_stableCmpFunc_Count 1 (L_slices_stableCmpFunc_Count 110) (bodyOf Tryz.prog 110 2) (gL (R := R) sp_slices_stableCmpFunc_Count_110_2 rd_slices_stableCmpFunc_Count_110_2 br) :=
  loopTold (callK_ev (loopsOK_list rids noneIn) 40) (lsokIn (loopsOK_list rids noneIn) 110 1 2) (by kernel_rfl) sp_slices_stableCmpFunc_Count_110_2 rd_slices_stableCmpFunc_Count_110_2 rfl (by kernel_rfl) (by
    intro us v h; unfold rd_slices_stableCmpFunc_Count_110_2 at h; split at h
    · rename_i v0 v1 v2 v3 v4; exact rq_slices_stableCmpFunc_Count_110_2 v0 v1 v2 v3 v4
    · cases h)
noncomputable abbrev ll_slices_stableCmpFunc_Count_110_2 {R : Type} : List (Nat × Nat × Nat × Smy R) := (110, 1, 2, gL sp_slices_stableCmpFunc_Count_110_2 rd_slices_stableCmpFunc_Count_110_2 br) :: []
theorem lk_slices_stableCmpFunc_Count_110_2 {R : Type} : ∀ e ∈ ll_slices_stableCmpFunc_Count_110_2 (R := R), LoopTells Tryz.prog X9 M_slices_stableCmpFunc_Count L_slices_stableCmpFunc_Count e.2.1 (L_slices_stableCmpFunc_Count e.1) (bodyOf Tryz.prog e.1 e.2.2.1) e.2.2.2 := List.forall_mem_cons.2 ⟨lo_slices_stableCmpFunc_Count_110_2, noneIn⟩
noncomputable def rd_slices_stableCmpFunc_Count_110_9 : List U → Rt
  | [.i v0, .i v1, .i v2, .i v3, .l v4] =>
    (.test (decide (v3 ≤ v0))
    (let r0 : Rs := (Rt.res (m_slices_symMergeCmpFunc_Count [U.i v2, U.i (w64 (v2 + v1)), U.i v3, U.l v4]))
    (.test (ok r0 0)
    (.next [.i v0, .i v1, .i v3, .i (w64 (v3 + w64 ((2 : Int) * v1))), .l (uL (out r0 0) 0)])
    .fail))
    (.stop 0 [.i v0, .i v1, .i v2, .l v4]))
  | _ => .fail
def sp_slices_stableCmpFunc_Count_110_9 : LSp := ⟨63, ⟨[(0, .one (.all 0)), (1, .one (.i .i64)), (2, .fn 84 []), (6, .one (.i .i64)), (7, .one (.i .i64)), (8, .one (.i .i64))], [.arr 49 true]⟩, [(.exit 4, ⟨[(0, .one (.all 0)), (1, .one (.i .i64)), (2, .fn 84 []), (6, .one (.i .i64)), (7, .one (.i .i64))], [.arr 49 true]⟩)]⟩
set_option maxRecDepth 100000 in
theorem rq_slices_stableCmpFunc_Count_110_9 (v0 : Int) (v1 : Int) (v2 : Int) (v3 : Int) (v4 : List (List PV)) : runK br Tryz.prog (callK br Tryz.prog X9 M_slices_stableCmpFunc_Count L_slices_stableCmpFunc_Count (lsT ll_slices_stableCmpFunc_Count_110_2) 40) M_slices_stableCmpFunc_Count (lsT ll_slices_stableCmpFunc_Count_110_2 110 1) 40 1 (L_slices_stableCmpFunc_Count 110) (bodyOf Tryz.prog 110 9) (sp_slices_stableCmpFunc_Count_110_9.s.ts sp_slices_stableCmpFunc_Count_110_9.n [.i v0, .i v1, .i v2, .i v3, .l v4]) (sp_slices_stableCmpFunc_Count_110_9.s.h [.i v0, .i v1, .i v2, .i v3, .l v4]) (idc Tryz.prog 1 (L_slices_stableCmpFunc_Count 110) 9) =
    (rd_slices_stableCmpFunc_Count_110_9 [.i v0, .i v1, .i v2, .i v3, .l v4]).go br (fun us' => some (.normal, sp_slices_stableCmpFunc_Count_110_9.s.ts sp_slices_stableCmpFunc_Count_110_9.n us', sp_slices_stableCmpFunc_Count_110_9.s.h us')) sp_slices_stableCmpFunc_Count_110_9.fin := by
  rw [← callF_eq, ← runF_eq]; kernel_rfl
theorem lo_slices_stableCmpFunc_Count_110_9 {R : Type} : LoopTells Tryz.prog X9 M_slices_stableCmpFunc_Count L_slices_stableCmpFunc_Count 1 (L_slices_stableCmpFunc_Count 110) (bodyOf Tryz.prog 110 9) (gL (R := R) sp_slices_stableCmpFunc_Count_110_9 rd_slices_stableCmpFunc_Count_110_9 br) :=
  loopTold (callK_ev (loopsOK_list rids lk_slices_stableCmpFunc_Count_110_2) 40) (lsokIn (loopsOK_list rids lk_slices_stableCmpFunc_Count_110_2) 110 1 9) (by kernel_rfl) sp_slices_stableCmpFunc_Count_110_9 rd_slices_stableCmpFunc_Count_110_9 rfl (by kernel_rfl) (by
    intro us v h; unfold rd_slices_stableCmpFunc_Count_110_9 at h; split at h
    · rename_i v0 v1 v2 v3 v4; exact rq_slices_stableCmpFunc_Count_110_9 v0 v1 v2 v3 v4
    · cases h)
noncomputable abbrev ll_slices_stableCmpFunc_Count_110_9 {R : Type} : List (Nat × Nat × Nat × Smy R) := (110, 1, 9, gL sp_slices_stableCmpFunc_Count_110_9 rd_slices_stableCmpFunc_Count_110_9 br) :: ll_slices_stableCmpFunc_Count_110_2
theorem lk_slices_stableCmpFunc_Count_110_9 {R : Type} : ∀ e ∈ ll_slices_stableCmpFunc_Count_110_9 (R := R), LoopTells Tryz.prog X9 M_slices_stableCmpFunc_Count L_slices_stableCmpFunc_Count e.2.1 (L_slices_stableCmpFunc_Count e.1) (bodyOf Tryz.prog e.1 e.2.2.1) e.2.2.2 := List.forall_mem_cons.2 ⟨lo_slices_stableCmpFunc_Count_110_9, lk_slices_stableCmpFunc_Count_110_2⟩
noncomputable def rd_slices_stableCmpFunc_Count_110_7 : List U → Rt
  | [.i v0, .i v1, .l v2] =>
    (.test (decide (v1 < v0))
    (let r0 : Rs := (lres rd_slices_stableCmpFunc_Count_110_9 [U.i v0, U.i v1, U.i (0 : Int), U.i (w64 ((2 : Int) * v1)), U.l v2])
    (.test (ok r0 0)
    (.test (decide (w64 (uI (out r0 0) 2 + uI (out r0 0) 1) < uI (out r0 0) 0))
    (let r1 : Rs := (Rt.res (m_slices_symMergeCmpFunc_Count [U.i (uI (out r0 0) 2), U.i (w64 (uI (out r0 0) 2 + uI (out r0 0) 1)), U.i (uI (out r0 0) 0), U.l (uL (out r0 0) 3)]))
    (.test (ok r1 0)
    (.next [.i (uI (out r0 0) 0), .i (w64 (uI (out r0 0) 1 * (2 : Int))), .l (uL (out r1 0) 0)])
    .fail))
    (.next [.i (uI (out r0 0) 0), .i (w64 (uI (out r0 0) 1 * (2 : Int))), .l (uL (out r0 0) 3)]))
    .fail))
    (.stop 0 [.l v2]))
  | _ => .fail
def sp_slices_stableCmpFunc_Count_110_7 : LSp := ⟨63, ⟨[(0, .one (.all 0)), (1, .one (.i .i64)), (2, .fn 84 []), (6, .one (.i .i64))], [.arr 49 true]⟩, [(.exit 2, ⟨[], [.arr 49 true]⟩)]⟩
set_option maxRecDepth 100000 in
theorem rq_slices_stableCmpFunc_Count_110_7 (v0 : Int) (v1 : Int) (v2 : List (List PV)) : runK br Tryz.prog (callK br Tryz.prog X9 M_slices_stableCmpFunc_Count L_slices_stableCmpFunc_Count (lsT ll_slices_stableCmpFunc_Count_110_9) 40) M_slices_stableCmpFunc_Count (lsT ll_slices_stableCmpFunc_Count_110_9 110 1) 40 1 (L_slices_stableCmpFunc_Count 110) (bodyOf Tryz.prog 110 7) (sp_slices_stableCmpFunc_Count_110_7.s.ts sp_slices_stableCmpFunc_Count_110_7.n [.i v0, .i v1, .l v2]) (sp_slices_stableCmpFunc_Count_110_7.s.h [.i v0, .i v1, .l v2]) (idc Tryz.prog 1 (L_slices_stableCmpFunc_Count 110) 7) =
    (rd_slices_stableCmpFunc_Count_110_7 [.i v0, .i v1, .l v2]).go br (fun us' => some (.normal, sp_slices_stableCmpFunc_Count_110_7.s.ts sp_slices_stableCmpFunc_Count_110_7.n us', sp_slices_stableCmpFunc_Count_110_7.s.h us')) sp_slices_stableCmpFunc_Count_110_7.fin := by
  rw [← callF_eq, ← runF_eq]; kernel_rfl
theorem lo_slices_stableCmpFunc_Count_110_7 {R : Type} : LoopTells Tryz.prog X9 M_slices_stableCmpFunc_Count L_slices_stableCmpFunc_Count 1 (L_slices_stableCmpFunc_Count 110) (bodyOf Tryz.prog 110 7) (gL (R := R) sp_slices_stableCmpFunc_Count_110_7 rd_slices_stableCmpFunc_Count_110_7 br) :=
  loopTold (callK_ev (loopsOK_list rids lk_slices_stableCmpFunc_Count_110_9) 40) (lsokIn (loopsOK_list rids lk_slices_stableCmpFunc_Count_110_9) 110 1 7) (by kernel_rfl) sp_slices_stableCmpFunc_Count_110_7 rd_slices_stableCmpFunc_Count_110_7 rfl (by kernel_rfl) (by
    intro us v h; unfold rd_slices_stableCmpFunc_Count_110_7 at h; split at h
    · rename_i v0 v1 v2; exact rq_slices_stableCmpFunc_Count_110_7 v0 v1 v2
    · cases h)
noncomputable abbrev ll_slices_stableCmpFunc_Count_110_7 {R : Type} : List (Nat × Nat × Nat × Smy R) := (110, 1, 7, gL sp_slices_stableCmpFunc_Count_110_7 rd_slices_stableCmpFunc_Count_110_7 br) :: ll_slices_stableCmpFunc_Count_110_9
theorem lk_slices_stableCmpFunc_Count_110_7 {R : Type} : ∀ e ∈ ll_slices_stableCmpFunc_Count_110_7 (R := R), LoopTells Tryz.prog X9 M_slices_stableCmpFunc_Count L_slices_stableCmpFunc_Count e.2.1 (L_slices_stableCmpFunc_Count e.1) (bodyOf Tryz.prog e.1 e.2.2.1) e.2.2.2 := List.forall_mem_cons.2 ⟨lo_slices_stableCmpFunc_Count_110_7, lk_slices_stableCmpFunc_Count_110_9⟩
def S_slices_stableCmpFunc_Count : FSp := ⟨[.one (.all 0), .one (.i .i64), .fn 84 []], [.arr 49 true], [], [([], [.arr 49 true])]⟩
noncomputable def m_slices_stableCmpFunc_Count : List U → Rt
  | [.i v0, .l v1] =>
    (let r0 : Rs := (lres rd_slices_stableCmpFunc_Count_110_2 [U.i v0, U.i (20 : Int), U.i (0 : Int), U.i (20 : Int), U.l v1])
    (.test (ok r0 0)
    (let r1 : Rs := (Rt.res (m_slices_insertionSortCmpFunc_Count [U.i (uI (out r0 0) 2), U.i (uI (out r0 0) 0), U.l (uL (out r0 0) 3)]))
    (.test (ok r1 0)
    (let r2 : Rs := (lres rd_slices_stableCmpFunc_Count_110_7 [U.i (uI (out r0 0) 0), U.i (uI (out r0 0) 1), U.l (uL (out r1 0) 0)])
    (.test (ok r2 0)
    (.stop 0 [.l (uL (out r2 0) 0)])
    .fail))
    .fail))
    .fail))
  | _ => .fail
set_option maxRecDepth 100000 in
theorem q_slices_stableCmpFunc_Count (v0 : Int) (v1 : List (List PV)) : callK br Tryz.prog X9 M_slices_stableCmpFunc_Count L_slices_stableCmpFunc_Count (lsT ll_slices_stableCmpFunc_Count_110_7) 60 110 (encs [.i v0, .l v1] 0 S_slices_stableCmpFunc_Count.ap) (encH [.i v0, .l v1] (ws S_slices_stableCmpFunc_Count.ap) S_slices_stableCmpFunc_Count.ah) (fun y => fixR Tryz.prog S_slices_stableCmpFunc_Count.plan S_slices_stableCmpFunc_Count.ah.length y) =
    (m_slices_stableCmpFunc_Count [.i v0, .l v1]).go br (fun _ => none) S_slices_stableCmpFunc_Count.fin := by
  rw [← callF_eq]; kernel_rfl
theorem e_slices_stableCmpFunc_Count : EOK Tryz.prog 110 (gF S_slices_stableCmpFunc_Count m_slices_stableCmpFunc_Count) :=
  eokTold mixed named x9 (loopsOK_list rids lk_slices_stableCmpFunc_Count_110_7) 60 S_slices_stableCmpFunc_Count m_slices_stableCmpFunc_Count (by
    intro us v h; unfold m_slices_stableCmpFunc_Count at h; split at h
    · rename_i v0 v1; exact q_slices_stableCmpFunc_Count v0 v1
    · cases h) false
noncomputable abbrev X10 : Ext := extT [(110, (gF S_slices_stableCmpFunc_Count m_slices_stableCmpFunc_Count))] X9
theorem x10 : XOK Tryz.prog X10 := xok1 x9 e_slices_stableCmpFunc_Count

/-- slices.SortStableFunc[[]levee/api.Count,levee/api.Count] -/
def L_slices_SortStableFunc_ : FuncId → Nat → Option (List Nat) := liveT []
def M_slices_SortStableFunc_ : FuncId → Bool := fun f => f == 110
def S_slices_SortStableFunc_ : FSp := ⟨[.one (.all 0), .fn 84 []], [.arr 49 true], [], [([], [.arr 49 true])]⟩
noncomputable def m_slices_SortStableFunc_ : List U → Rt
  | [.l v0] =>
    (let r0 : Rs := (Rt.res (m_slices_stableCmpFunc_Count [U.i (ln v0), U.l v0]))
    (.test (ok r0 0)
    (.stop 0 [.l (uL (out r0 0) 0)])
    .fail))
  | _ => .fail
set_option maxRecDepth 100000 in
theorem q_slices_SortStableFunc_ (v0 : List (List PV)) : callK br Tryz.prog X10 M_slices_SortStableFunc_ L_slices_SortStableFunc_ (lsT []) 60 83 (encs [.l v0] 0 S_slices_SortStableFunc_.ap) (encH [.l v0] (ws S_slices_SortStableFunc_.ap) S_slices_SortStableFunc_.ah) (fun y => fixR Tryz.prog S_slices_SortStableFunc_.plan S_slices_SortStableFunc_.ah.length y) =
    (m_slices_SortStableFunc_ [.l v0]).go br (fun _ => none) S_slices_SortStableFunc_.fin := by
  rw [← callF_eq]; kernel_rfl
theorem e_slices_SortStableFunc_ : EOK Tryz.prog 83 (gF S_slices_SortStableFunc_ m_slices_SortStableFunc_) :=
  eokTold mixed named x10 (loopsOK_list rids noneIn) 60 S_slices_SortStableFunc_ m_slices_SortStableFunc_ (by
    intro us v h; unfold m_slices_SortStableFunc_ at h; split at h
    · rename_i v0; exact q_slices_SortStableFunc_ v0
    · cases h) false
noncomputable abbrev X11 : Ext := extT [(83, (gF S_slices_SortStableFunc_ m_slices_SortStableFunc_))] X10
theorem x11 : XOK Tryz.prog X11 := xok1 x10 e_slices_SortStableFunc_

/-- slices.SortStableFunc[[]levee/api.Count,levee/api.Count] -/
def L_sortNil_Count : FuncId → Nat → Option (List Nat) := liveT []
def M_sortNil_Count : FuncId → Bool := fun f => f == 110 || f == 126
def S_sortNil_Count : FSp := ⟨[.one (.nils), .fn 84 []], [], [], [([], [])]⟩
noncomputable def m_sortNil_Count : List U → Rt
  | [] =>
    (.stop 0 [])
  | _ => .fail
set_option maxRecDepth 100000 in
theorem q_sortNil_Count : callK br Tryz.prog XI M_sortNil_Count L_sortNil_Count (lsT []) 60 83 (encs [] 0 S_sortNil_Count.ap) (encH [] (ws S_sortNil_Count.ap) S_sortNil_Count.ah) (fun y => fixR Tryz.prog S_sortNil_Count.plan S_sortNil_Count.ah.length y) =
    (m_sortNil_Count []).go br (fun _ => none) S_sortNil_Count.fin := by
  rw [← callF_eq]; kernel_rfl
theorem e_sortNil_Count : EOK Tryz.prog 83 (gF S_sortNil_Count m_sortNil_Count) :=
  eokTold mixed named xI (loopsOK_list rids noneIn) 60 S_sortNil_Count m_sortNil_Count (by
    intro us v h; unfold m_sortNil_Count at h; split at h
    · exact q_sortNil_Count
    · cases h) false
noncomputable abbrev X12 : Ext := extT [(83, (gE S_sortNil_Count m_sortNil_Count (gF S_slices_SortStableFunc_ m_slices_SortStableFunc_)))] X11
theorem x12 : XOK Tryz.prog X12 := xok1 x11 (eokE e_sortNil_Count e_slices_SortStableFunc_)

end Go.Proofs.YthmljoalohpafaaGreatDoor

set_option linter.unusedVariables false
namespace Go.Proofs.YthmljoalohpafaaGreatDoor
open Go Go.Pu

noncomputable abbrev XJ : Ext := extT [(83, (gE S_sortNil_Count m_sortNil_Count (gF S_slices_SortStableFunc_ m_slices_SortStableFunc_)))] X12
theorem xJ : XOK Tryz.prog XJ := xokT x12 (List.forall_mem_cons.2 ⟨eokE e_sortNil_Count e_slices_SortStableFunc_, fun _ h => nomatch h⟩)

end Go.Proofs.YthmljoalohpafaaGreatDoor
