/- Texts of this seat, one behind the other. -/
import Derived.Test.YthmljoalohpafaaGreatDoorGW
import Derived.Test.YthmljoalohpafaaGreatDoorTE
set_option linter.unusedVariables false
namespace Go.Proofs.YthmljoalohpafaaGreatDoor
open Go Go.Pu

/-- levee/bag.Sum -/
def L_bag_Sum : FuncId → Nat → Option (List Nat) := liveT [(48, 7, [0, 3, 4, 5]), (48, 1000007, [0, 3, 4, 5]), (48, 2000007, [2]), (48, 5, [0, 99000003, 4]), (48, 1000005, [3]), (48, 2000005, [2])]
def M_bag_Sum : FuncId → Bool := fun f => f == 83
noncomputable def rd_bag_Sum_48_7 : List U → Rt
  | [.i v0, .l v1, .l v2, .i v3, .l v4] =>
    (.test (decide (v0 < ln v1))
    (.test (inR v0 (ln v1))
    (.test (decide (Int.toNat v0 < List.length v1))
    (let r0 : Rs := (Rt.res (m_row_Compare [U.l (cL (el v1 v0) 0), U.l v4]))
    (.test (ok r0 0)
    (.test (uI (out r0 0) 0 == (0 : Int))
    (.test (inR v0 (ln v1))
    (.test (decide (Int.toNat v0 < List.length v1))
    (.next [.i (w64 (v0 + (1 : Int))), .l v1, .l v2, .i (w64 (v3 + cI (el v1 v0) 1)), .l v4])
    .fail)
    .fail)
    (.stop 0 [.i v0, .l v1, .l v2, .i v3, .l v4]))
    .fail))
    .fail)
    .fail)
    (.stop 0 [.i v0, .l v1, .l v2, .i v3, .l v4]))
  | _ => .fail
def sp_bag_Sum_48_7 : LSp := ⟨55, ⟨[(0, .one (.all 0)), (3, .one (.all 1)), (4, .one (.i .i64)), (5, .one (.ptr 2 0))], [.arr 49 true, .arr 49 true, .box 49 [.one (.all 3), .one (.i .i64)], .arr 31 true]⟩, [(.exit 2, ⟨[(0, .one (.all 0)), (3, .one (.all 1)), (4, .one (.i .i64)), (5, .one (.ptr 2 0))], [.arr 49 true, .arr 49 true, .box 49 [.one (.all 3), .one (.i .i64)], .arr 31 true]⟩)]⟩
set_option maxRecDepth 100000 in
theorem rq_bag_Sum_48_7 (v0 : Int) (v1 : List (List PV)) (v2 : List (List PV)) (v3 : Int) (v4 : List (List PV)) : runK br Tryz.prog (callK br Tryz.prog XJ M_bag_Sum L_bag_Sum (lsT []) 40) M_bag_Sum (lsT [] 48 0) 40 0 (L_bag_Sum 48) (bodyOf Tryz.prog 48 7) (sp_bag_Sum_48_7.s.ts sp_bag_Sum_48_7.n [.i v0, .l v1, .l v2, .i v3, .l v4]) (sp_bag_Sum_48_7.s.h [.i v0, .l v1, .l v2, .i v3, .l v4]) (idc Tryz.prog 0 (L_bag_Sum 48) 7) =
    (rd_bag_Sum_48_7 [.i v0, .l v1, .l v2, .i v3, .l v4]).go br (fun us' => some (.normal, sp_bag_Sum_48_7.s.ts sp_bag_Sum_48_7.n us', sp_bag_Sum_48_7.s.h us')) sp_bag_Sum_48_7.fin := by
  rw [← callF_eq, ← runF_eq]; kernel_rfl
theorem lo_bag_Sum_48_7 {R : Type} : LoopTells Tryz.prog XJ M_bag_Sum L_bag_Sum 0 (L_bag_Sum 48) (bodyOf Tryz.prog 48 7) (gL (R := R) sp_bag_Sum_48_7 rd_bag_Sum_48_7 br) :=
  loopTold (callK_ev (loopsOK_list rids noneIn) 40) (lsokIn (loopsOK_list rids noneIn) 48 0 7) (by kernel_rfl) sp_bag_Sum_48_7 rd_bag_Sum_48_7 rfl (by kernel_rfl) (by
    intro us v h; unfold rd_bag_Sum_48_7 at h; split at h
    · rename_i v0 v1 v2 v3 v4; exact rq_bag_Sum_48_7 v0 v1 v2 v3 v4
    · cases h)
noncomputable abbrev ll_bag_Sum_48_7 {R : Type} : List (Nat × Nat × Nat × Smy R) := (48, 0, 7, gL sp_bag_Sum_48_7 rd_bag_Sum_48_7 br) :: []
theorem lk_bag_Sum_48_7 {R : Type} : ∀ e ∈ ll_bag_Sum_48_7 (R := R), LoopTells Tryz.prog XJ M_bag_Sum L_bag_Sum e.2.1 (L_bag_Sum e.1) (bodyOf Tryz.prog e.1 e.2.2.1) e.2.2.2 := List.forall_mem_cons.2 ⟨lo_bag_Sum_48_7, noneIn⟩
noncomputable def rd_bag_Sum_48_5 : List U → Rt
  | [.i v0, .l v1, .l v2] =>
    (.test (decide (v0 < ln v1))
    (.test (inR v0 (ln v1))
    (.test (decide (Int.toNat v0 < List.length v1))
    (.test (decide ((0 + List.length (cL (el v1 v0) 0)) * 32 ≤ 140737488355328))
    (let r0 : Rs := (lres rd_bag_Sum_48_7 [U.i v0, U.l v1, U.l v2, U.i (0 : Int), U.l (cL (el v1 v0) 0)])
    (.test (ok r0 0)
    (.test (uI (out r0 0) 3 != (0 : Int))
    (.test (decide ((List.length (uL (out r0 0) 2) + 1) * 32 ≤ 140737488355328))
    (.next [.i (uI (out r0 0) 0), .l (uL (out r0 0) 1), .l (uL (out r0 0) 2 ++ [[PV.lst 31 (uL (out r0 0) 4), pI (uI (out r0 0) 3)]])])
    .fail)
    (.next [.i (uI (out r0 0) 0), .l (uL (out r0 0) 1), .l (uL (out r0 0) 2)]))
    .fail))
    .fail)
    .fail)
    .fail)
    (.stop 0 [.l v2]))
  | _ => .fail
def sp_bag_Sum_48_5 : LSp := ⟨55, ⟨[(0, .one (.all 0)), (3, .one (.all 1)), (4, .one (.i .i64))], [.arr 49 true, .arr 49 true]⟩, [(.exit 0, ⟨[(3, .one (.all 0))], [.arr 49 true]⟩)]⟩
set_option maxRecDepth 100000 in
theorem rq_bag_Sum_48_5 (v0 : Int) (v1 : List (List PV)) (v2 : List (List PV)) : runK br Tryz.prog (callK br Tryz.prog XJ M_bag_Sum L_bag_Sum (lsT ll_bag_Sum_48_7) 40) M_bag_Sum (lsT ll_bag_Sum_48_7 48 0) 40 0 (L_bag_Sum 48) (bodyOf Tryz.prog 48 5) (sp_bag_Sum_48_5.s.ts sp_bag_Sum_48_5.n [.i v0, .l v1, .l v2]) (sp_bag_Sum_48_5.s.h [.i v0, .l v1, .l v2]) (idc Tryz.prog 0 (L_bag_Sum 48) 5) =
    (rd_bag_Sum_48_5 [.i v0, .l v1, .l v2]).go br (fun us' => some (.normal, sp_bag_Sum_48_5.s.ts sp_bag_Sum_48_5.n us', sp_bag_Sum_48_5.s.h us')) sp_bag_Sum_48_5.fin := by
  rw [← callF_eq, ← runF_eq]; kernel_rfl
theorem lo_bag_Sum_48_5 {R : Type} : LoopTells Tryz.prog XJ M_bag_Sum L_bag_Sum 0 (L_bag_Sum 48) (bodyOf Tryz.prog 48 5) (gL (R := R) sp_bag_Sum_48_5 rd_bag_Sum_48_5 br) :=
  loopTold (callK_ev (loopsOK_list rids lk_bag_Sum_48_7) 40) (lsokIn (loopsOK_list rids lk_bag_Sum_48_7) 48 0 5) (by kernel_rfl) sp_bag_Sum_48_5 rd_bag_Sum_48_5 rfl (by kernel_rfl) (by
    intro us v h; unfold rd_bag_Sum_48_5 at h; split at h
    · rename_i v0 v1 v2; exact rq_bag_Sum_48_5 v0 v1 v2
    · cases h)
noncomputable abbrev ll_bag_Sum_48_5 {R : Type} : List (Nat × Nat × Nat × Smy R) := (48, 0, 5, gL sp_bag_Sum_48_5 rd_bag_Sum_48_5 br) :: ll_bag_Sum_48_7
theorem lk_bag_Sum_48_5 {R : Type} : ∀ e ∈ ll_bag_Sum_48_5 (R := R), LoopTells Tryz.prog XJ M_bag_Sum L_bag_Sum e.2.1 (L_bag_Sum e.1) (bodyOf Tryz.prog e.1 e.2.2.1) e.2.2.2 := List.forall_mem_cons.2 ⟨lo_bag_Sum_48_5, lk_bag_Sum_48_7⟩
def S_bag_Sum : FSp := ⟨[.one (.l 49)], [], [], [([.one (.all 0)], [.arr 49 true])]⟩
noncomputable def m_bag_Sum : List U → Rt
  | [.l v0] =>
    (.test (decide ((0 + List.length v0) * 32 ≤ 140737488355328))
    (let r0 : Rs := (Rt.res (m_slices_SortStableFunc_ [U.l v0]))
    (.test (ok r0 0)
    (let r1 : Rs := (lres rd_bag_Sum_48_5 [U.i (0 : Int), U.l (uL (out r0 0) 0), U.l []])
    (.test (ok r1 0)
    (.stop 0 [.l (uL (out r1 0) 0)])
    .fail))
    .fail))
    .fail)
  | _ => .fail
set_option maxRecDepth 100000 in
theorem q_bag_Sum (v0 : List (List PV)) : callK br Tryz.prog XJ M_bag_Sum L_bag_Sum (lsT ll_bag_Sum_48_5) 60 48 (encs [.l v0] 0 S_bag_Sum.ap) (encH [.l v0] (ws S_bag_Sum.ap) S_bag_Sum.ah) (fun y => fixR Tryz.prog S_bag_Sum.plan S_bag_Sum.ah.length y) =
    (m_bag_Sum [.l v0]).go br (fun _ => none) S_bag_Sum.fin := by
  rw [← callF_eq]; kernel_rfl
theorem e_bag_Sum : EOK Tryz.prog 48 (gF S_bag_Sum m_bag_Sum) :=
  eokTold mixed named xJ (loopsOK_list rids lk_bag_Sum_48_5) 60 S_bag_Sum m_bag_Sum (by
    intro us v h; unfold m_bag_Sum at h; split at h
    · rename_i v0; exact q_bag_Sum v0
    · cases h) false
noncomputable abbrev X101 : Ext := extT [(48, (gF S_bag_Sum m_bag_Sum))] XJ
theorem x101 : XOK Tryz.prog X101 := xok1 xJ e_bag_Sum

/-- levee/leveeref02.Short -/
def L_R02_Short : FuncId → Nat → Option (List Nat) := liveT [(38, 2, [0, 3]), (38, 1000002, [0]), (38, 2000002, [2])]
def M_R02_Short : FuncId → Bool := fun _ => false
noncomputable def rd_R02_Short_38_2 : List U → Rt
  | [.l v0, .i v1] =>
    (.test (decide (v1 < ln v0))
    (.test (inR v1 (ln v0))
    (.test (decide ((↑(ByteArray.size (cS (el v0 v1) 2)) : Int) > (1000 : Int)))
    (.stop 0 [.b false])
    (.next [.l v0, .i (w64 (v1 + (1 : Int)))]))
    .fail)
    (.stop 1 [.l v0]))
  | _ => .fail
def sp_R02_Short_38_2 : LSp := ⟨20, ⟨[(0, .one (.l 31)), (3, .one (.i .i64))], []⟩, [(.ret, ⟨[(2, .one (.b))], []⟩), (.exit 0, ⟨[(0, .one (.l 31))], []⟩)]⟩
set_option maxRecDepth 100000 in
theorem rq_R02_Short_38_2 (v0 : List (List PV)) (v1 : Int) : runK br Tryz.prog (callK br Tryz.prog X101 M_R02_Short L_R02_Short (lsT []) 40) M_R02_Short (lsT [] 38 0) 40 0 (L_R02_Short 38) (bodyOf Tryz.prog 38 2) (sp_R02_Short_38_2.s.ts sp_R02_Short_38_2.n [.l v0, .i v1]) (sp_R02_Short_38_2.s.h [.l v0, .i v1]) (idc Tryz.prog 0 (L_R02_Short 38) 2) =
    (rd_R02_Short_38_2 [.l v0, .i v1]).go br (fun us' => some (.normal, sp_R02_Short_38_2.s.ts sp_R02_Short_38_2.n us', sp_R02_Short_38_2.s.h us')) sp_R02_Short_38_2.fin := by
  rw [← callF_eq, ← runF_eq]; kernel_rfl
theorem lo_R02_Short_38_2 {R : Type} : LoopTells Tryz.prog X101 M_R02_Short L_R02_Short 0 (L_R02_Short 38) (bodyOf Tryz.prog 38 2) (gL (R := R) sp_R02_Short_38_2 rd_R02_Short_38_2 br) :=
  loopTold (callK_ev (loopsOK_list rids noneIn) 40) (lsokIn (loopsOK_list rids noneIn) 38 0 2) (by kernel_rfl) sp_R02_Short_38_2 rd_R02_Short_38_2 rfl (by kernel_rfl) (by
    intro us v h; unfold rd_R02_Short_38_2 at h; split at h
    · rename_i v0 v1; exact rq_R02_Short_38_2 v0 v1
    · cases h)
noncomputable abbrev ll_R02_Short_38_2 {R : Type} : List (Nat × Nat × Nat × Smy R) := (38, 0, 2, gL sp_R02_Short_38_2 rd_R02_Short_38_2 br) :: []
theorem lk_R02_Short_38_2 {R : Type} : ∀ e ∈ ll_R02_Short_38_2 (R := R), LoopTells Tryz.prog X101 M_R02_Short L_R02_Short e.2.1 (L_R02_Short e.1) (bodyOf Tryz.prog e.1 e.2.2.1) e.2.2.2 := List.forall_mem_cons.2 ⟨lo_R02_Short_38_2, noneIn⟩
def S_R02_Short : FSp := ⟨[.one (.l 31)], [], [], [([.one (.b)], [])]⟩
noncomputable def m_R02_Short : List U → Rt
  | [.l v0] =>
    (let r0 : Rs := (lres rd_R02_Short_38_2 [U.l v0, U.i (0 : Int)])
    (.test (ok r0 0)
    (.stop 0 [.b (uB (out r0 0) 0)])
    (.test (ok r0 1)
    (.stop 0 [.b (decide (ln (uL (out r0 1) 0) ≤ (40 : Int)))])
    .fail)))
  | _ => .fail
set_option maxRecDepth 100000 in
theorem q_R02_Short (v0 : List (List PV)) : callK br Tryz.prog X101 M_R02_Short L_R02_Short (lsT ll_R02_Short_38_2) 60 38 (encs [.l v0] 0 S_R02_Short.ap) (encH [.l v0] (ws S_R02_Short.ap) S_R02_Short.ah) (fun y => fixR Tryz.prog S_R02_Short.plan S_R02_Short.ah.length y) =
    (m_R02_Short [.l v0]).go br (fun _ => none) S_R02_Short.fin := by
  rw [← callF_eq]; kernel_rfl
theorem e_R02_Short : EOK Tryz.prog 38 (gF S_R02_Short m_R02_Short) :=
  eokTold mixed named x101 (loopsOK_list rids lk_R02_Short_38_2) 60 S_R02_Short m_R02_Short (by
    intro us v h; unfold m_R02_Short at h; split at h
    · rename_i v0; exact q_R02_Short v0
    · cases h) false
noncomputable abbrev X102 : Ext := extT [(38, (gF S_R02_Short m_R02_Short))] X101
theorem x102 : XOK Tryz.prog X102 := xok1 x101 e_R02_Short

/-- levee/leveeref05.Small -/
def L_R05_Small : FuncId → Nat → Option (List Nat) := liveT [(9, 2, [0, 3]), (9, 1000002, [0]), (9, 2000002, [2])]
def M_R05_Small : FuncId → Bool := fun _ => false
noncomputable def rd_R05_Small_9_2 : List U → Rt
  | [.l v0, .i v1] =>
    (.test (decide (v1 < ln v0))
    (.test (inR v1 (ln v0))
    (let r0 : Rs := (Rt.res (m_R02_Short [U.l (cL (el v0 v1) 0)]))
    (.test (ok r0 0)
    (.test (!uB (out r0 0) 0)
    (.stop 0 [.b false])
    (.next [.l v0, .i (w64 (v1 + (1 : Int)))]))
    .fail))
    .fail)
    (.stop 1 [.l v0]))
  | _ => .fail
def sp_R05_Small_9_2 : LSp := ⟨20, ⟨[(0, .one (.l 49)), (3, .one (.i .i64))], []⟩, [(.ret, ⟨[(2, .one (.b))], []⟩), (.exit 0, ⟨[(0, .one (.l 49))], []⟩)]⟩
set_option maxRecDepth 100000 in
theorem rq_R05_Small_9_2 (v0 : List (List PV)) (v1 : Int) : runK br Tryz.prog (callK br Tryz.prog X102 M_R05_Small L_R05_Small (lsT []) 40) M_R05_Small (lsT [] 9 0) 40 0 (L_R05_Small 9) (bodyOf Tryz.prog 9 2) (sp_R05_Small_9_2.s.ts sp_R05_Small_9_2.n [.l v0, .i v1]) (sp_R05_Small_9_2.s.h [.l v0, .i v1]) (idc Tryz.prog 0 (L_R05_Small 9) 2) =
    (rd_R05_Small_9_2 [.l v0, .i v1]).go br (fun us' => some (.normal, sp_R05_Small_9_2.s.ts sp_R05_Small_9_2.n us', sp_R05_Small_9_2.s.h us')) sp_R05_Small_9_2.fin := by
  rw [← callF_eq, ← runF_eq]; kernel_rfl
theorem lo_R05_Small_9_2 {R : Type} : LoopTells Tryz.prog X102 M_R05_Small L_R05_Small 0 (L_R05_Small 9) (bodyOf Tryz.prog 9 2) (gL (R := R) sp_R05_Small_9_2 rd_R05_Small_9_2 br) :=
  loopTold (callK_ev (loopsOK_list rids noneIn) 40) (lsokIn (loopsOK_list rids noneIn) 9 0 2) (by kernel_rfl) sp_R05_Small_9_2 rd_R05_Small_9_2 rfl (by kernel_rfl) (by
    intro us v h; unfold rd_R05_Small_9_2 at h; split at h
    · rename_i v0 v1; exact rq_R05_Small_9_2 v0 v1
    · cases h)
noncomputable abbrev ll_R05_Small_9_2 {R : Type} : List (Nat × Nat × Nat × Smy R) := (9, 0, 2, gL sp_R05_Small_9_2 rd_R05_Small_9_2 br) :: []
theorem lk_R05_Small_9_2 {R : Type} : ∀ e ∈ ll_R05_Small_9_2 (R := R), LoopTells Tryz.prog X102 M_R05_Small L_R05_Small e.2.1 (L_R05_Small e.1) (bodyOf Tryz.prog e.1 e.2.2.1) e.2.2.2 := List.forall_mem_cons.2 ⟨lo_R05_Small_9_2, noneIn⟩
def S_R05_Small : FSp := ⟨[.one (.l 49)], [], [], [([.one (.b)], [])]⟩
noncomputable def m_R05_Small : List U → Rt
  | [.l v0] =>
    (let r0 : Rs := (lres rd_R05_Small_9_2 [U.l v0, U.i (0 : Int)])
    (.test (ok r0 0)
    (.stop 0 [.b (uB (out r0 0) 0)])
    (.test (ok r0 1)
    (.stop 0 [.b (decide (ln (uL (out r0 1) 0) ≤ (60 : Int)))])
    .fail)))
  | _ => .fail
set_option maxRecDepth 100000 in
theorem q_R05_Small (v0 : List (List PV)) : callK br Tryz.prog X102 M_R05_Small L_R05_Small (lsT ll_R05_Small_9_2) 60 9 (encs [.l v0] 0 S_R05_Small.ap) (encH [.l v0] (ws S_R05_Small.ap) S_R05_Small.ah) (fun y => fixR Tryz.prog S_R05_Small.plan S_R05_Small.ah.length y) =
    (m_R05_Small [.l v0]).go br (fun _ => none) S_R05_Small.fin := by
  rw [← callF_eq]; kernel_rfl
theorem e_R05_Small : EOK Tryz.prog 9 (gF S_R05_Small m_R05_Small) :=
  eokTold mixed named x102 (loopsOK_list rids lk_R05_Small_9_2) 60 S_R05_Small m_R05_Small (by
    intro us v h; unfold m_R05_Small at h; split at h
    · rename_i v0; exact q_R05_Small v0
    · cases h) false
noncomputable abbrev X103 : Ext := extT [(9, (gF S_R05_Small m_R05_Small))] X102
theorem x103 : XOK Tryz.prog X103 := xok1 x102 e_R05_Small

/-- levee/leveeref01.Int -/
def L_R01_Int : FuncId → Nat → Option (List Nat) := liveT []
def M_R01_Int : FuncId → Bool := fun _ => false
def S_R01_Int : FSp := ⟨[.one (.i .i64)], [], [], [([.agg [.i .i64, .i .i64, .s]], [])]⟩
noncomputable def m_R01_Int : List U → Rt
  | [.i v0] =>
    (.stop 0 [.i ((2 : Int)), .i v0, .s ({ data := #[] })])
  | _ => .fail
set_option maxRecDepth 100000 in
theorem q_R01_Int (v0 : Int) : callK br Tryz.prog X103 M_R01_Int L_R01_Int (lsT []) 60 27 (encs [.i v0] 0 S_R01_Int.ap) (encH [.i v0] (ws S_R01_Int.ap) S_R01_Int.ah) (fun y => fixR Tryz.prog S_R01_Int.plan S_R01_Int.ah.length y) =
    (m_R01_Int [.i v0]).go br (fun _ => none) S_R01_Int.fin := by
  rw [← callF_eq]; kernel_rfl
theorem e_R01_Int : EOK Tryz.prog 27 (gI S_R01_Int m_R01_Int) :=
  eokTold mixed named x103 (loopsOK_list rids noneIn) 60 S_R01_Int m_R01_Int (by
    intro us v h; unfold m_R01_Int at h; split at h
    · rename_i v0; exact q_R01_Int v0
    · cases h) true
noncomputable abbrev X104 : Ext := extT [(27, (gI S_R01_Int m_R01_Int))] X103
theorem x104 : XOK Tryz.prog X104 := xok1 x103 e_R01_Int

/-- levee/leveelaw05.one -/
def L_L05_one : FuncId → Nat → Option (List Nat) := liveT []
def M_L05_one : FuncId → Bool := fun _ => false
def S_L05_one : FSp := ⟨[.one (.i .i64)], [], [], [([.one (.all 0)], [.arr 31 true])]⟩
noncomputable def m_L05_one : List U → Rt
  | [.i v0] =>
    (.stop 0 [.l ([[pI (2 : Int), pI v0, pS { data := #[] }]])])
  | _ => .fail
set_option maxRecDepth 100000 in
theorem q_L05_one (v0 : Int) : callK br Tryz.prog X104 M_L05_one L_L05_one (lsT []) 60 40 (encs [.i v0] 0 S_L05_one.ap) (encH [.i v0] (ws S_L05_one.ap) S_L05_one.ah) (fun y => fixR Tryz.prog S_L05_one.plan S_L05_one.ah.length y) =
    (m_L05_one [.i v0]).go br (fun _ => none) S_L05_one.fin := by
  rw [← callF_eq]; kernel_rfl
theorem e_L05_one : EOK Tryz.prog 40 (gI S_L05_one m_L05_one) :=
  eokTold mixed named x104 (loopsOK_list rids noneIn) 60 S_L05_one m_L05_one (by
    intro us v h; unfold m_L05_one at h; split at h
    · rename_i v0; exact q_L05_one v0
    · cases h) true
noncomputable abbrev X105 : Ext := extT [(40, (gI S_L05_one m_L05_one))] X104
theorem x105 : XOK Tryz.prog X105 := xok1 x104 e_L05_one

/-- levee/value.May -/
def L_value_May : FuncId → Nat → Option (List Nat) := liveT []
def M_value_May : FuncId → Bool := fun _ => false
def S_value_May : FSp := ⟨[.agg [.i .i64, .i .i64, .s]], [], [], [([.one (.b)], [])]⟩
noncomputable def m_value_May : List U → Rt
  | [.i v0, .i v1, .s v2] =>
    (.test (v0 == (0 : Int))
    (.stop 0 [.b (v0 == (0 : Int) && (v1 == (0 : Int) && (ByteArray.toList v2 == [] && true)))])
    (.test (v0 == (1 : Int))
    (.test (v1 == (0 : Int))
    (.stop 0 [.b (ByteArray.toList v2 == [])])
    (.test (v1 == (1 : Int))
    (.stop 0 [.b (ByteArray.toList v2 == [])])
    (.stop 0 [.b false])))
    (.test (v0 == (2 : Int))
    (.stop 0 [.b (ByteArray.toList v2 == [])])
    (.test (v0 == (3 : Int))
    (.test (v1 == (0 : Int))
    (.stop 0 [.b (decide ((↑(ByteArray.size v2) : Int) ≤ (1000 : Int)))])
    (.stop 0 [.b false]))
    (.stop 0 [.b false])))))
  | _ => .fail
set_option maxRecDepth 100000 in
theorem q_value_May (v0 : Int) (v1 : Int) (v2 : ByteArray) : callK br Tryz.prog X105 M_value_May L_value_May (lsT []) 60 65 (encs [.i v0, .i v1, .s v2] 0 S_value_May.ap) (encH [.i v0, .i v1, .s v2] (ws S_value_May.ap) S_value_May.ah) (fun y => fixR Tryz.prog S_value_May.plan S_value_May.ah.length y) =
    (m_value_May [.i v0, .i v1, .s v2]).go br (fun _ => none) S_value_May.fin := by
  rw [← callF_eq]; kernel_rfl
theorem e_value_May : EOK Tryz.prog 65 (gF S_value_May m_value_May) :=
  eokTold mixed named x105 (loopsOK_list rids noneIn) 60 S_value_May m_value_May (by
    intro us v h; unfold m_value_May at h; split at h
    · rename_i v0 v1 v2; exact q_value_May v0 v1 v2
    · cases h) false
noncomputable abbrev X106 : Ext := extT [(65, (gF S_value_May m_value_May))] X105
theorem x106 : XOK Tryz.prog X106 := xok1 x105 e_value_May

/-- levee/row.May -/
def L_row_May : FuncId → Nat → Option (List Nat) := liveT [(107, 2, [0, 1, 7, 8]), (107, 1000002, []), (107, 2000002, [4])]
def M_row_May : FuncId → Bool := fun _ => false
noncomputable def rd_row_May_107_2 : List U → Rt
  | [.l v0, .i v1, .i v2] =>
    (.test (decide (v2 < v1))
    (.test (inR v2 (ln v0))
    (let r0 : Rs := (Rt.res (m_value_May [U.i (cI (el v0 v2) 0), U.i (cI (el v0 v2) 1), U.s (cS (el v0 v2) 2)]))
    (.test (ok r0 0)
    (.test (!uB (out r0 0) 0)
    (.stop 0 [.i v2])
    (.next [.l v0, .i v1, .i (w64 (v2 + (1 : Int)))]))
    .fail))
    .fail)
    (.stop 1 []))
  | _ => .fail
def sp_row_May_107_2 : LSp := ⟨19, ⟨[(0, .one (.l 31)), (1, .fn 77 []), (7, .one (.i .i64)), (8, .one (.i .i64))], []⟩, [(.ret, ⟨[(4, .one (.i .i64))], []⟩), (.exit 0, ⟨[], []⟩)]⟩
set_option maxRecDepth 100000 in
theorem rq_row_May_107_2 (v0 : List (List PV)) (v1 : Int) (v2 : Int) : runK br Tryz.prog (callK br Tryz.prog X106 M_row_May L_row_May (lsT []) 40) M_row_May (lsT [] 107 0) 40 0 (L_row_May 107) (bodyOf Tryz.prog 107 2) (sp_row_May_107_2.s.ts sp_row_May_107_2.n [.l v0, .i v1, .i v2]) (sp_row_May_107_2.s.h [.l v0, .i v1, .i v2]) (idc Tryz.prog 0 (L_row_May 107) 2) =
    (rd_row_May_107_2 [.l v0, .i v1, .i v2]).go br (fun us' => some (.normal, sp_row_May_107_2.s.ts sp_row_May_107_2.n us', sp_row_May_107_2.s.h us')) sp_row_May_107_2.fin := by
  rw [← callF_eq, ← runF_eq]; kernel_rfl
theorem lo_row_May_107_2 {R : Type} : LoopTells Tryz.prog X106 M_row_May L_row_May 0 (L_row_May 107) (bodyOf Tryz.prog 107 2) (gL (R := R) sp_row_May_107_2 rd_row_May_107_2 br) :=
  loopTold (callK_ev (loopsOK_list rids noneIn) 40) (lsokIn (loopsOK_list rids noneIn) 107 0 2) (by kernel_rfl) sp_row_May_107_2 rd_row_May_107_2 rfl (by kernel_rfl) (by
    intro us v h; unfold rd_row_May_107_2 at h; split at h
    · rename_i v0 v1 v2; exact rq_row_May_107_2 v0 v1 v2
    · cases h)
noncomputable abbrev ll_row_May_107_2 {R : Type} : List (Nat × Nat × Nat × Smy R) := (107, 0, 2, gL sp_row_May_107_2 rd_row_May_107_2 br) :: []
theorem lk_row_May_107_2 {R : Type} : ∀ e ∈ ll_row_May_107_2 (R := R), LoopTells Tryz.prog X106 M_row_May L_row_May e.2.1 (L_row_May e.1) (bodyOf Tryz.prog e.1 e.2.2.1) e.2.2.2 := List.forall_mem_cons.2 ⟨lo_row_May_107_2, noneIn⟩
def S_row_May : FSp := ⟨[.one (.l 31)], [], [], [([.one (.b)], [])]⟩
noncomputable def m_row_May : List U → Rt
  | [.l v0] =>
    (.test (decide (ln v0 ≤ (40 : Int)))
    (let r0 : Rs := (lres rd_row_May_107_2 [U.l v0, U.i (ln v0), U.i (0 : Int)])
    (.test (ok r0 0)
    (.stop 0 [.b (!decide (uI (out r0 0) 0 ≥ (0 : Int)))])
    (.test (ok r0 1)
    (.stop 0 [.b true])
    .fail)))
    (.stop 0 [.b false]))
  | _ => .fail
set_option maxRecDepth 100000 in
theorem q_row_May (v0 : List (List PV)) : callK br Tryz.prog X106 M_row_May L_row_May (lsT ll_row_May_107_2) 60 42 (encs [.l v0] 0 S_row_May.ap) (encH [.l v0] (ws S_row_May.ap) S_row_May.ah) (fun y => fixR Tryz.prog S_row_May.plan S_row_May.ah.length y) =
    (m_row_May [.l v0]).go br (fun _ => none) S_row_May.fin := by
  rw [← callF_eq]; kernel_rfl
theorem e_row_May : EOK Tryz.prog 42 (gF S_row_May m_row_May) :=
  eokTold mixed named x106 (loopsOK_list rids lk_row_May_107_2) 60 S_row_May m_row_May (by
    intro us v h; unfold m_row_May at h; split at h
    · rename_i v0; exact q_row_May v0
    · cases h) false
noncomputable abbrev X107 : Ext := extT [(42, (gF S_row_May m_row_May))] X106
theorem x107 : XOK Tryz.prog X107 := xok1 x106 e_row_May

/-- levee/bag.Of -/
def L_bag_Of : FuncId → Nat → Option (List Nat) := liveT [(39, 3, [99000003, 6, 7, 8]), (39, 1000003, [3]), (39, 2000003, [2])]
def M_bag_Of : FuncId → Bool := fun _ => false
noncomputable def rd_bag_Of_39_3 : List U → Rt
  | [.l v0, .i v1, .i v2, .l v3] =>
    (.test (decide (v2 < v1))
    (.test (inR v2 (ln v0))
    (let r0 : Rs := (Rt.res (m_row_May [U.l (cL (el v0 v2) 0)]))
    (.test (ok r0 0)
    (.test (!uB (out r0 0) 0)
    (.stop 0 [])
    (.test (decide ((List.length v3 + 1) * 32 ≤ 140737488355328))
    (.next [.l v0, .i v1, .i (w64 (v2 + (1 : Int))), .l (v3 ++ [[PV.lst 31 (cL (el v0 v2) 0), pI (1 : Int)]])])
    .fail))
    .fail))
    .fail)
    (.stop 1 [.l v3]))
  | _ => .fail
def sp_bag_Of_39_3 : LSp := ⟨23, ⟨[(3, .one (.all 0)), (6, .one (.l 25)), (7, .one (.i .i64)), (8, .one (.i .i64))], [.arr 49 true]⟩, [(.ret, ⟨[(2, .one (.nils))], []⟩), (.exit 0, ⟨[(3, .one (.all 0))], [.arr 49 true]⟩)]⟩
set_option maxRecDepth 100000 in
theorem rq_bag_Of_39_3 (v0 : List (List PV)) (v1 : Int) (v2 : Int) (v3 : List (List PV)) : runK br Tryz.prog (callK br Tryz.prog X107 M_bag_Of L_bag_Of (lsT []) 40) M_bag_Of (lsT [] 39 0) 40 0 (L_bag_Of 39) (bodyOf Tryz.prog 39 3) (sp_bag_Of_39_3.s.ts sp_bag_Of_39_3.n [.l v0, .i v1, .i v2, .l v3]) (sp_bag_Of_39_3.s.h [.l v0, .i v1, .i v2, .l v3]) (idc Tryz.prog 0 (L_bag_Of 39) 3) =
    (rd_bag_Of_39_3 [.l v0, .i v1, .i v2, .l v3]).go br (fun us' => some (.normal, sp_bag_Of_39_3.s.ts sp_bag_Of_39_3.n us', sp_bag_Of_39_3.s.h us')) sp_bag_Of_39_3.fin := by
  rw [← callF_eq, ← runF_eq]; kernel_rfl
theorem lo_bag_Of_39_3 {R : Type} : LoopTells Tryz.prog X107 M_bag_Of L_bag_Of 0 (L_bag_Of 39) (bodyOf Tryz.prog 39 3) (gL (R := R) sp_bag_Of_39_3 rd_bag_Of_39_3 br) :=
  loopTold (callK_ev (loopsOK_list rids noneIn) 40) (lsokIn (loopsOK_list rids noneIn) 39 0 3) (by kernel_rfl) sp_bag_Of_39_3 rd_bag_Of_39_3 rfl (by kernel_rfl) (by
    intro us v h; unfold rd_bag_Of_39_3 at h; split at h
    · rename_i v0 v1 v2 v3; exact rq_bag_Of_39_3 v0 v1 v2 v3
    · cases h)
noncomputable abbrev ll_bag_Of_39_3 {R : Type} : List (Nat × Nat × Nat × Smy R) := (39, 0, 3, gL sp_bag_Of_39_3 rd_bag_Of_39_3 br) :: []
theorem lk_bag_Of_39_3 {R : Type} : ∀ e ∈ ll_bag_Of_39_3 (R := R), LoopTells Tryz.prog X107 M_bag_Of L_bag_Of e.2.1 (L_bag_Of e.1) (bodyOf Tryz.prog e.1 e.2.2.1) e.2.2.2 := List.forall_mem_cons.2 ⟨lo_bag_Of_39_3, noneIn⟩
def S_bag_Of : FSp := ⟨[.one (.l 25)], [], [99000000], [([.one (.all 0)], [.arr 49 true])]⟩
noncomputable def m_bag_Of : List U → Rt
  | [.l v0] =>
    (let r0 : Rs := (lres rd_bag_Of_39_3 [U.l v0, U.i (ln v0), U.i (0 : Int), U.l []])
    (.test (ok r0 0)
    (.stop 0 [.l []])
    (.test (ok r0 1)
    (let r1 : Rs := (Rt.res (m_bag_Sum [U.l (uL (out r0 1) 0)]))
    (.test (ok r1 0)
    (.stop 0 [.l (uL (out r1 0) 0)])
    .fail))
    .fail)))
  | _ => .fail
set_option maxRecDepth 100000 in
theorem q_bag_Of (v0 : List (List PV)) : callK br Tryz.prog X107 M_bag_Of L_bag_Of (lsT ll_bag_Of_39_3) 60 39 (encs [.l v0] 0 S_bag_Of.ap) (encH [.l v0] (ws S_bag_Of.ap) S_bag_Of.ah) (fun y => fixR Tryz.prog S_bag_Of.plan S_bag_Of.ah.length y) =
    (m_bag_Of [.l v0]).go br (fun _ => none) S_bag_Of.fin := by
  rw [← callF_eq]; kernel_rfl
theorem e_bag_Of : EOK Tryz.prog 39 (gF S_bag_Of m_bag_Of) :=
  eokTold mixed named x107 (loopsOK_list rids lk_bag_Of_39_3) 60 S_bag_Of m_bag_Of (by
    intro us v h; unfold m_bag_Of at h; split at h
    · rename_i v0; exact q_bag_Of v0
    · cases h) false
noncomputable abbrev X108 : Ext := extT [(39, (gF S_bag_Of m_bag_Of))] X107
theorem x108 : XOK Tryz.prog X108 := xok1 x107 e_bag_Of

/-- levee/bag.fits -/
def L_bag_fits : FuncId → Nat → Option (List Nat) := liveT []
def M_bag_fits : FuncId → Bool := fun _ => false
def S_bag_fits : FSp := ⟨[.one (.i .i64)], [], [], [([.one (.b)], [])]⟩
noncomputable def m_bag_fits : List U → Rt
  | [.i v0] =>
    (.test (decide (v0 ≥ (-1000000000 : Int)))
    (.stop 0 [.b (decide (v0 ≤ (1000000000 : Int)))])
    (.stop 0 [.b false]))
  | _ => .fail
set_option maxRecDepth 100000 in
theorem q_bag_fits (v0 : Int) : callK br Tryz.prog X108 M_bag_fits L_bag_fits (lsT []) 60 41 (encs [.i v0] 0 S_bag_fits.ap) (encH [.i v0] (ws S_bag_fits.ap) S_bag_fits.ah) (fun y => fixR Tryz.prog S_bag_fits.plan S_bag_fits.ah.length y) =
    (m_bag_fits [.i v0]).go br (fun _ => none) S_bag_fits.fin := by
  rw [← callF_eq]; kernel_rfl
theorem e_bag_fits : EOK Tryz.prog 41 (gF S_bag_fits m_bag_fits) :=
  eokTold mixed named x108 (loopsOK_list rids noneIn) 60 S_bag_fits m_bag_fits (by
    intro us v h; unfold m_bag_fits at h; split at h
    · rename_i v0; exact q_bag_fits v0
    · cases h) false
noncomputable abbrev X109 : Ext := extT [(41, (gF S_bag_fits m_bag_fits))] X108
theorem x109 : XOK Tryz.prog X109 := xok1 x108 e_bag_fits

/-- levee/bag.May -/
def L_bag_May : FuncId → Nat → Option (List Nat) := liveT [(11, 2, [0, 5, 6, 7]), (11, 1000002, []), (11, 2000002, [2])]
def M_bag_May : FuncId → Bool := fun _ => false
noncomputable def rd_bag_May_11_2 : List U → Rt
  | [.l v0, .l v1, .i v2, .i v3] =>
    (.test (decide (v3 < v2))
    (.test (inR v3 (ln v1))
    (.test (cI (el v1 v3) 1 == (0 : Int))
    (.stop 0 [.b false])
    (let r0 : Rs := (Rt.res (m_bag_fits [U.i (cI (el v1 v3) 1)]))
    (.test (ok r0 0)
    (.test (!uB (out r0 0) 0)
    (.stop 0 [.b false])
    (let r1 : Rs := (Rt.res (m_row_May [U.l (cL (el v1 v3) 0)]))
    (.test (ok r1 0)
    (.test (!uB (out r1 0) 0)
    (.stop 0 [.b false])
    (.test (decide (v3 > (0 : Int)))
    (.test (inR (w64 (v3 - (1 : Int))) (ln v0))
    (let r2 : Rs := (Rt.res (m_row_Compare [U.l (cL (el v0 (w64 (v3 - (1 : Int)))) 0), U.l (cL (el v1 v3) 0)]))
    (.test (ok r2 0)
    (.test (decide (uI (out r2 0) 0 ≥ (0 : Int)))
    (.stop 0 [.b false])
    (.next [.l v0, .l v1, .i v2, .i (w64 (v3 + (1 : Int)))]))
    .fail))
    .fail)
    (.next [.l v0, .l v1, .i v2, .i (w64 (v3 + (1 : Int)))])))
    .fail)))
    .fail)))
    .fail)
    (.stop 1 []))
  | _ => .fail
def sp_bag_May_11_2 : LSp := ⟨44, ⟨[(0, .one (.l 49)), (5, .one (.l 49)), (6, .one (.i .i64)), (7, .one (.i .i64))], []⟩, [(.ret, ⟨[(2, .one (.b))], []⟩), (.exit 0, ⟨[], []⟩)]⟩
set_option maxRecDepth 100000 in
theorem rq_bag_May_11_2 (v0 : List (List PV)) (v1 : List (List PV)) (v2 : Int) (v3 : Int) : runK br Tryz.prog (callK br Tryz.prog X109 M_bag_May L_bag_May (lsT []) 40) M_bag_May (lsT [] 11 0) 40 0 (L_bag_May 11) (bodyOf Tryz.prog 11 2) (sp_bag_May_11_2.s.ts sp_bag_May_11_2.n [.l v0, .l v1, .i v2, .i v3]) (sp_bag_May_11_2.s.h [.l v0, .l v1, .i v2, .i v3]) (idc Tryz.prog 0 (L_bag_May 11) 2) =
    (rd_bag_May_11_2 [.l v0, .l v1, .i v2, .i v3]).go br (fun us' => some (.normal, sp_bag_May_11_2.s.ts sp_bag_May_11_2.n us', sp_bag_May_11_2.s.h us')) sp_bag_May_11_2.fin := by
  rw [← callF_eq, ← runF_eq]; kernel_rfl
theorem lo_bag_May_11_2 {R : Type} : LoopTells Tryz.prog X109 M_bag_May L_bag_May 0 (L_bag_May 11) (bodyOf Tryz.prog 11 2) (gL (R := R) sp_bag_May_11_2 rd_bag_May_11_2 br) :=
  loopTold (callK_ev (loopsOK_list rids noneIn) 40) (lsokIn (loopsOK_list rids noneIn) 11 0 2) (by kernel_rfl) sp_bag_May_11_2 rd_bag_May_11_2 rfl (by kernel_rfl) (by
    intro us v h; unfold rd_bag_May_11_2 at h; split at h
    · rename_i v0 v1 v2 v3; exact rq_bag_May_11_2 v0 v1 v2 v3
    · cases h)
noncomputable abbrev ll_bag_May_11_2 {R : Type} : List (Nat × Nat × Nat × Smy R) := (11, 0, 2, gL sp_bag_May_11_2 rd_bag_May_11_2 br) :: []
theorem lk_bag_May_11_2 {R : Type} : ∀ e ∈ ll_bag_May_11_2 (R := R), LoopTells Tryz.prog X109 M_bag_May L_bag_May e.2.1 (L_bag_May e.1) (bodyOf Tryz.prog e.1 e.2.2.1) e.2.2.2 := List.forall_mem_cons.2 ⟨lo_bag_May_11_2, noneIn⟩
def S_bag_May : FSp := ⟨[.one (.l 49)], [], [], [([.one (.b)], [])]⟩
noncomputable def m_bag_May : List U → Rt
  | [.l v0] =>
    (let r0 : Rs := (lres rd_bag_May_11_2 [U.l v0, U.l v0, U.i (ln v0), U.i (0 : Int)])
    (.test (ok r0 0)
    (.stop 0 [.b (uB (out r0 0) 0)])
    (.test (ok r0 1)
    (.stop 0 [.b true])
    .fail)))
  | _ => .fail
set_option maxRecDepth 100000 in
theorem q_bag_May (v0 : List (List PV)) : callK br Tryz.prog X109 M_bag_May L_bag_May (lsT ll_bag_May_11_2) 60 11 (encs [.l v0] 0 S_bag_May.ap) (encH [.l v0] (ws S_bag_May.ap) S_bag_May.ah) (fun y => fixR Tryz.prog S_bag_May.plan S_bag_May.ah.length y) =
    (m_bag_May [.l v0]).go br (fun _ => none) S_bag_May.fin := by
  rw [← callF_eq]; kernel_rfl
theorem e_bag_May : EOK Tryz.prog 11 (gF S_bag_May m_bag_May) :=
  eokTold mixed named x109 (loopsOK_list rids lk_bag_May_11_2) 60 S_bag_May m_bag_May (by
    intro us v h; unfold m_bag_May at h; split at h
    · rename_i v0; exact q_bag_May v0
    · cases h) false
noncomputable abbrev X110 : Ext := extT [(11, (gF S_bag_May m_bag_May))] X109
theorem x110 : XOK Tryz.prog X110 := xok1 x109 e_bag_May

/-- levee/bag.Rows -/
def L_bag_Rows : FuncId → Nat → Option (List Nat) := liveT [(22, 10, [51000004, 6, 10, 11, 12, 28, 29]), (22, 1000010, [4, 10, 11, 12]), (22, 2000010, [2, 3]), (22, 5, [51000004, 10, 11, 12]), (22, 1000005, [4]), (22, 2000005, [2, 3])]
def M_bag_Rows : FuncId → Bool := fun _ => false
noncomputable def rd_bag_Rows_22_10 : List U → Rt
  | [.l v0, .i v1, .i v2, .i v3, .i v4, .l v5, .l v6, .i v7] =>
    (.test (decide (v4 < v3))
    (.test (decide ((0 + List.length v6) * 32 ≤ 140737488355328))
    (.test (decide ((List.length v5 + 1) * 24 ≤ 140737488355328))
    (.next [.l v0, .i v1, .i v2, .i v3, .i (w64 (v4 + (1 : Int))), .l (v5 ++ [[PV.lst 31 v6]]), .l v6, .i v7])
    .fail)
    .fail)
    (.stop 0 [.l v0, .i v1, .i v2, .l v5]))
  | _ => .fail
def sp_bag_Rows_22_10 : LSp := ⟨40, ⟨[(4, .one (.all 0)), (6, .one (.ptr 1 0)), (10, .one (.l 49)), (11, .one (.i .i64)), (12, .one (.i .i64)), (28, .one (.i .i64)), (29, .one (.i .i64))], [.arr 25 true, .box 49 [.one (.l 31), .one (.i .i64)]]⟩, [(.exit 2, ⟨[(4, .one (.all 0)), (10, .one (.l 49)), (11, .one (.i .i64)), (12, .one (.i .i64))], [.arr 25 true]⟩)]⟩
set_option maxRecDepth 100000 in
theorem rq_bag_Rows_22_10 (v0 : List (List PV)) (v1 : Int) (v2 : Int) (v3 : Int) (v4 : Int) (v5 : List (List PV)) (v6 : List (List PV)) (v7 : Int) : runK br Tryz.prog (callK br Tryz.prog X110 M_bag_Rows L_bag_Rows (lsT []) 40) M_bag_Rows (lsT [] 22 0) 40 0 (L_bag_Rows 22) (bodyOf Tryz.prog 22 10) (sp_bag_Rows_22_10.s.ts sp_bag_Rows_22_10.n [.l v0, .i v1, .i v2, .i v3, .i v4, .l v5, .l v6, .i v7]) (sp_bag_Rows_22_10.s.h [.l v0, .i v1, .i v2, .i v3, .i v4, .l v5, .l v6, .i v7]) (idc Tryz.prog 0 (L_bag_Rows 22) 10) =
    (rd_bag_Rows_22_10 [.l v0, .i v1, .i v2, .i v3, .i v4, .l v5, .l v6, .i v7]).go br (fun us' => some (.normal, sp_bag_Rows_22_10.s.ts sp_bag_Rows_22_10.n us', sp_bag_Rows_22_10.s.h us')) sp_bag_Rows_22_10.fin := by
  rw [← callF_eq, ← runF_eq]; kernel_rfl
theorem lo_bag_Rows_22_10 {R : Type} : LoopTells Tryz.prog X110 M_bag_Rows L_bag_Rows 0 (L_bag_Rows 22) (bodyOf Tryz.prog 22 10) (gL (R := R) sp_bag_Rows_22_10 rd_bag_Rows_22_10 br) :=
  loopTold (callK_ev (loopsOK_list rids noneIn) 40) (lsokIn (loopsOK_list rids noneIn) 22 0 10) (by kernel_rfl) sp_bag_Rows_22_10 rd_bag_Rows_22_10 rfl (by kernel_rfl) (by
    intro us v h; unfold rd_bag_Rows_22_10 at h; split at h
    · rename_i v0 v1 v2 v3 v4 v5 v6 v7; exact rq_bag_Rows_22_10 v0 v1 v2 v3 v4 v5 v6 v7
    · cases h)
noncomputable abbrev ll_bag_Rows_22_10 {R : Type} : List (Nat × Nat × Nat × Smy R) := (22, 0, 10, gL sp_bag_Rows_22_10 rd_bag_Rows_22_10 br) :: []
theorem lk_bag_Rows_22_10 {R : Type} : ∀ e ∈ ll_bag_Rows_22_10 (R := R), LoopTells Tryz.prog X110 M_bag_Rows L_bag_Rows e.2.1 (L_bag_Rows e.1) (bodyOf Tryz.prog e.1 e.2.2.1) e.2.2.2 := List.forall_mem_cons.2 ⟨lo_bag_Rows_22_10, noneIn⟩
noncomputable def rd_bag_Rows_22_5 : List U → Rt
  | [.l v0, .i v1, .i v2, .l v3] =>
    (.test (decide (v2 < v1))
    (.test (inR v2 (ln v0))
    (.test (decide (cI (el v0 v2) 1 < (0 : Int)))
    (.stop 0 [.b false])
    (.test (decide (cI (el v0 v2) 1 > w64 ((100000 : Int) - ln v3)))
    (.stop 0 [.b false])
    (let r0 : Rs := (lres rd_bag_Rows_22_10 [U.l v0, U.i v1, U.i v2, U.i (cI (el v0 v2) 1), U.i (0 : Int), U.l v3, U.l (cL (el v0 v2) 0), U.i (cI (el v0 v2) 1)])
    (.test (ok r0 0)
    (.next [.l (uL (out r0 0) 0), .i (uI (out r0 0) 1), .i (w64 (uI (out r0 0) 2 + (1 : Int))), .l (uL (out r0 0) 3)])
    .fail))))
    .fail)
    (.stop 1 [.l v3]))
  | _ => .fail
def sp_bag_Rows_22_5 : LSp := ⟨40, ⟨[(4, .one (.all 0)), (10, .one (.l 49)), (11, .one (.i .i64)), (12, .one (.i .i64))], [.arr 25 true]⟩, [(.ret, ⟨[(2, .one (.nils)), (3, .one (.b))], []⟩), (.exit 0, ⟨[(4, .one (.all 0))], [.arr 25 true]⟩)]⟩
set_option maxRecDepth 100000 in
theorem rq_bag_Rows_22_5 (v0 : List (List PV)) (v1 : Int) (v2 : Int) (v3 : List (List PV)) : runK br Tryz.prog (callK br Tryz.prog X110 M_bag_Rows L_bag_Rows (lsT ll_bag_Rows_22_10) 40) M_bag_Rows (lsT ll_bag_Rows_22_10 22 0) 40 0 (L_bag_Rows 22) (bodyOf Tryz.prog 22 5) (sp_bag_Rows_22_5.s.ts sp_bag_Rows_22_5.n [.l v0, .i v1, .i v2, .l v3]) (sp_bag_Rows_22_5.s.h [.l v0, .i v1, .i v2, .l v3]) (idc Tryz.prog 0 (L_bag_Rows 22) 5) =
    (rd_bag_Rows_22_5 [.l v0, .i v1, .i v2, .l v3]).go br (fun us' => some (.normal, sp_bag_Rows_22_5.s.ts sp_bag_Rows_22_5.n us', sp_bag_Rows_22_5.s.h us')) sp_bag_Rows_22_5.fin := by
  rw [← callF_eq, ← runF_eq]; kernel_rfl
theorem lo_bag_Rows_22_5 {R : Type} : LoopTells Tryz.prog X110 M_bag_Rows L_bag_Rows 0 (L_bag_Rows 22) (bodyOf Tryz.prog 22 5) (gL (R := R) sp_bag_Rows_22_5 rd_bag_Rows_22_5 br) :=
  loopTold (callK_ev (loopsOK_list rids lk_bag_Rows_22_10) 40) (lsokIn (loopsOK_list rids lk_bag_Rows_22_10) 22 0 5) (by kernel_rfl) sp_bag_Rows_22_5 rd_bag_Rows_22_5 rfl (by kernel_rfl) (by
    intro us v h; unfold rd_bag_Rows_22_5 at h; split at h
    · rename_i v0 v1 v2 v3; exact rq_bag_Rows_22_5 v0 v1 v2 v3
    · cases h)
noncomputable abbrev ll_bag_Rows_22_5 {R : Type} : List (Nat × Nat × Nat × Smy R) := (22, 0, 5, gL sp_bag_Rows_22_5 rd_bag_Rows_22_5 br) :: ll_bag_Rows_22_10
theorem lk_bag_Rows_22_5 {R : Type} : ∀ e ∈ ll_bag_Rows_22_5 (R := R), LoopTells Tryz.prog X110 M_bag_Rows L_bag_Rows e.2.1 (L_bag_Rows e.1) (bodyOf Tryz.prog e.1 e.2.2.1) e.2.2.2 := List.forall_mem_cons.2 ⟨lo_bag_Rows_22_5, lk_bag_Rows_22_10⟩
def S_bag_Rows : FSp := ⟨[.one (.l 49)], [], [51000000], [([.one (.all 0), .one (.b)], [.arr 25 true])]⟩
noncomputable def m_bag_Rows : List U → Rt
  | [.l v0] =>
    (let r0 : Rs := (Rt.res (m_bag_May [U.l v0]))
    (.test (ok r0 0)
    (.test (!uB (out r0 0) 0)
    (.stop 0 [.b false, .l []])
    (let r1 : Rs := (lres rd_bag_Rows_22_5 [U.l v0, U.i (ln v0), U.i (0 : Int), U.l []])
    (.test (ok r1 0)
    (.stop 0 [.b (uB (out r1 0) 0), .l []])
    (.test (ok r1 1)
    (.stop 0 [.b true, .l (uL (out r1 1) 0)])
    .fail))))
    .fail))
  | _ => .fail
set_option maxRecDepth 100000 in
theorem q_bag_Rows (v0 : List (List PV)) : callK br Tryz.prog X110 M_bag_Rows L_bag_Rows (lsT ll_bag_Rows_22_5) 60 22 (encs [.l v0] 0 S_bag_Rows.ap) (encH [.l v0] (ws S_bag_Rows.ap) S_bag_Rows.ah) (fun y => fixR Tryz.prog S_bag_Rows.plan S_bag_Rows.ah.length y) =
    (m_bag_Rows [.l v0]).go br (fun _ => none) S_bag_Rows.fin := by
  rw [← callF_eq]; kernel_rfl
theorem e_bag_Rows : EOK Tryz.prog 22 (gF S_bag_Rows m_bag_Rows) :=
  eokTold mixed named x110 (loopsOK_list rids lk_bag_Rows_22_5) 60 S_bag_Rows m_bag_Rows (by
    intro us v h; unfold m_bag_Rows at h; split at h
    · rename_i v0; exact q_bag_Rows v0
    · cases h) false
noncomputable abbrev X111 : Ext := extT [(22, (gF S_bag_Rows m_bag_Rows))] X110
theorem x111 : XOK Tryz.prog X111 := xok1 x110 e_bag_Rows

/-- levee/bag.Neg -/
def L_bag_Neg : FuncId → Nat → Option (List Nat) := liveT [(18, 5, [3, 11, 12]), (18, 1000005, [3]), (18, 2000005, [2])]
def M_bag_Neg : FuncId → Bool := fun _ => false
noncomputable def rd_bag_Neg_18_5 : List U → Rt
  | [.i v0, .i v1, .l v2] =>
    (.test (decide (v1 < v0))
    (.test (inR v1 (ln v2))
    (.test (decide (Int.toNat v1 < List.length v2))
    (.test (inR v1 (ln v2))
    (.test (decide (Int.toNat v1 < List.length v2))
    (.next [.i v0, .i (w64 (v1 + (1 : Int))), .l (List.set v2 (Int.toNat v1) (setCells (el v2 v1) 1 [pI (w64 ((0 : Int) - cI (el v2 v1) 1))]))])
    .fail)
    .fail)
    .fail)
    .fail)
    (.stop 0 [.l v2]))
  | _ => .fail
def sp_bag_Neg_18_5 : LSp := ⟨27, ⟨[(3, .one (.all 0)), (11, .one (.i .i64)), (12, .one (.i .i64))], [.arr 49 true]⟩, [(.exit 0, ⟨[(3, .one (.all 0))], [.arr 49 true]⟩)]⟩
set_option maxRecDepth 100000 in
theorem rq_bag_Neg_18_5 (v0 : Int) (v1 : Int) (v2 : List (List PV)) : runK br Tryz.prog (callK br Tryz.prog X111 M_bag_Neg L_bag_Neg (lsT []) 40) M_bag_Neg (lsT [] 18 0) 40 0 (L_bag_Neg 18) (bodyOf Tryz.prog 18 5) (sp_bag_Neg_18_5.s.ts sp_bag_Neg_18_5.n [.i v0, .i v1, .l v2]) (sp_bag_Neg_18_5.s.h [.i v0, .i v1, .l v2]) (idc Tryz.prog 0 (L_bag_Neg 18) 5) =
    (rd_bag_Neg_18_5 [.i v0, .i v1, .l v2]).go br (fun us' => some (.normal, sp_bag_Neg_18_5.s.ts sp_bag_Neg_18_5.n us', sp_bag_Neg_18_5.s.h us')) sp_bag_Neg_18_5.fin := by
  rw [← callF_eq, ← runF_eq]; kernel_rfl
theorem lo_bag_Neg_18_5 {R : Type} : LoopTells Tryz.prog X111 M_bag_Neg L_bag_Neg 0 (L_bag_Neg 18) (bodyOf Tryz.prog 18 5) (gL (R := R) sp_bag_Neg_18_5 rd_bag_Neg_18_5 br) :=
  loopTold (callK_ev (loopsOK_list rids noneIn) 40) (lsokIn (loopsOK_list rids noneIn) 18 0 5) (by kernel_rfl) sp_bag_Neg_18_5 rd_bag_Neg_18_5 rfl (by kernel_rfl) (by
    intro us v h; unfold rd_bag_Neg_18_5 at h; split at h
    · rename_i v0 v1 v2; exact rq_bag_Neg_18_5 v0 v1 v2
    · cases h)
noncomputable abbrev ll_bag_Neg_18_5 {R : Type} : List (Nat × Nat × Nat × Smy R) := (18, 0, 5, gL sp_bag_Neg_18_5 rd_bag_Neg_18_5 br) :: []
theorem lk_bag_Neg_18_5 {R : Type} : ∀ e ∈ ll_bag_Neg_18_5 (R := R), LoopTells Tryz.prog X111 M_bag_Neg L_bag_Neg e.2.1 (L_bag_Neg e.1) (bodyOf Tryz.prog e.1 e.2.2.1) e.2.2.2 := List.forall_mem_cons.2 ⟨lo_bag_Neg_18_5, noneIn⟩
def S_bag_Neg : FSp := ⟨[.one (.l 49)], [], [99000000], [([.one (.all 0)], [.arr 49 true])]⟩
noncomputable def m_bag_Neg : List U → Rt
  | [.l v0] =>
    (let r0 : Rs := (Rt.res (m_bag_May [U.l v0]))
    (.test (ok r0 0)
    (.test (!uB (out r0 0) 0)
    (.stop 0 [.l []])
    (let r1 : Rs := (Rt.res (m_bag_Sum [U.l v0]))
    (.test (ok r1 0)
    (let r2 : Rs := (lres rd_bag_Neg_18_5 [U.i (ln (uL (out r1 0) 0)), U.i (0 : Int), U.l (uL (out r1 0) 0)])
    (.test (ok r2 0)
    (.stop 0 [.l (uL (out r2 0) 0)])
    .fail))
    .fail)))
    .fail))
  | _ => .fail
set_option maxRecDepth 100000 in
theorem q_bag_Neg (v0 : List (List PV)) : callK br Tryz.prog X111 M_bag_Neg L_bag_Neg (lsT ll_bag_Neg_18_5) 60 18 (encs [.l v0] 0 S_bag_Neg.ap) (encH [.l v0] (ws S_bag_Neg.ap) S_bag_Neg.ah) (fun y => fixR Tryz.prog S_bag_Neg.plan S_bag_Neg.ah.length y) =
    (m_bag_Neg [.l v0]).go br (fun _ => none) S_bag_Neg.fin := by
  rw [← callF_eq]; kernel_rfl
theorem e_bag_Neg : EOK Tryz.prog 18 (gF S_bag_Neg m_bag_Neg) :=
  eokTold mixed named x111 (loopsOK_list rids lk_bag_Neg_18_5) 60 S_bag_Neg m_bag_Neg (by
    intro us v h; unfold m_bag_Neg at h; split at h
    · rename_i v0; exact q_bag_Neg v0
    · cases h) false
noncomputable abbrev X112 : Ext := extT [(18, (gF S_bag_Neg m_bag_Neg))] X111
theorem x112 : XOK Tryz.prog X112 := xok1 x111 e_bag_Neg

/-- internal/strconv.FormatBool -/
def L_strconv_FormatBool : FuncId → Nat → Option (List Nat) := liveT []
def M_strconv_FormatBool : FuncId → Bool := fun _ => false
def S_strconv_FormatBool : FSp := ⟨[.one (.b)], [], [], [([.one (.s)], [])]⟩
noncomputable def m_strconv_FormatBool : List U → Rt
  | [.b v0] =>
    (.test v0
    (.stop 0 [.s ({ data := #[(116 : UInt8), (114 : UInt8), (117 : UInt8), (101 : UInt8)] })])
    (.stop 0 [.s ({ data := #[(102 : UInt8), (97 : UInt8), (108 : UInt8), (115 : UInt8), (101 : UInt8)] })]))
  | _ => .fail
set_option maxRecDepth 100000 in
theorem q_strconv_FormatBool (v0 : Bool) : callK br Tryz.prog X112 M_strconv_FormatBool L_strconv_FormatBool (lsT []) 60 114 (encs [.b v0] 0 S_strconv_FormatBool.ap) (encH [.b v0] (ws S_strconv_FormatBool.ap) S_strconv_FormatBool.ah) (fun y => fixR Tryz.prog S_strconv_FormatBool.plan S_strconv_FormatBool.ah.length y) =
    (m_strconv_FormatBool [.b v0]).go br (fun _ => none) S_strconv_FormatBool.fin := by
  rw [← callF_eq]; kernel_rfl
theorem e_strconv_FormatBool : EOK Tryz.prog 114 (gF S_strconv_FormatBool m_strconv_FormatBool) :=
  eokTold mixed named x112 (loopsOK_list rids noneIn) 60 S_strconv_FormatBool m_strconv_FormatBool (by
    intro us v h; unfold m_strconv_FormatBool at h; split at h
    · rename_i v0; exact q_strconv_FormatBool v0
    · cases h) false
noncomputable abbrev X113 : Ext := extT [(114, (gF S_strconv_FormatBool m_strconv_FormatBool))] X112
theorem x113 : XOK Tryz.prog X113 := xok1 x112 e_strconv_FormatBool

/-- levee/value.Text -/
def L_value_Text : FuncId → Nat → Option (List Nat) := liveT []
def M_value_Text : FuncId → Bool := fun _ => false
def S_value_Text : FSp := ⟨[.agg [.i .i64, .i .i64, .s]], [], [], [([.one (.s)], [])]⟩
noncomputable def m_value_Text : List U → Rt
  | [.i v0, .i v1, .s v2] =>
    (.test (v0 == (0 : Int))
    (.stop 0 [.s ({ data := #[(110 : UInt8), (117 : UInt8), (108 : UInt8), (108 : UInt8)] })])
    (.test (v0 == (1 : Int))
    (let r0 : Rs := (Rt.res (m_strconv_FormatBool [U.b (v1 != (0 : Int))]))
    (.test (ok r0 0)
    (.stop 0 [.s (uS (out r0 0) 0)])
    .fail))
    (.test (v0 == (2 : Int))
    (.test (inI64 v1)
    (.stop 0 [.s (itoaB v1)])
    .fail)
    (.test (v0 == (3 : Int))
    (.test (replOk v2 { data := #[(39 : UInt8)] } { data := #[(39 : UInt8), (39 : UInt8)] })
    (.test (decide (1 + ByteArray.size (replB v2 { data := #[(39 : UInt8)] } { data := #[(39 : UInt8), (39 : UInt8)] }) ≤ 9223372036854775807))
    (.test (decide (ByteArray.size ({ data := #[(39 : UInt8)] } ++ replB v2 { data := #[(39 : UInt8)] } { data := #[(39 : UInt8), (39 : UInt8)] }) + 1 ≤ 9223372036854775807))
    (.stop 0 [.s ({ data := #[(39 : UInt8)] } ++ replB v2 { data := #[(39 : UInt8)] } { data := #[(39 : UInt8), (39 : UInt8)] } ++ { data := #[(39 : UInt8)] })])
    .fail)
    .fail)
    .fail)
    (.stop 0 [.s ({ data := #[(63 : UInt8)] })])))))
  | _ => .fail
set_option maxRecDepth 100000 in
theorem q_value_Text (v0 : Int) (v1 : Int) (v2 : ByteArray) : callK br Tryz.prog X113 M_value_Text L_value_Text (lsT []) 60 61 (encs [.i v0, .i v1, .s v2] 0 S_value_Text.ap) (encH [.i v0, .i v1, .s v2] (ws S_value_Text.ap) S_value_Text.ah) (fun y => fixR Tryz.prog S_value_Text.plan S_value_Text.ah.length y) =
    (m_value_Text [.i v0, .i v1, .s v2]).go br (fun _ => none) S_value_Text.fin := by
  rw [← callF_eq]; kernel_rfl
theorem e_value_Text : EOK Tryz.prog 61 (gF S_value_Text m_value_Text) :=
  eokTold mixed named x113 (loopsOK_list rids noneIn) 60 S_value_Text m_value_Text (by
    intro us v h; unfold m_value_Text at h; split at h
    · rename_i v0 v1 v2; exact q_value_Text v0 v1 v2
    · cases h) false
noncomputable abbrev X114 : Ext := extT [(61, (gF S_value_Text m_value_Text))] X113
theorem x114 : XOK Tryz.prog X114 := xok1 x113 e_value_Text

/-- levee/row.Text -/
def L_row_Text : FuncId → Nat → Option (List Nat) := liveT [(52, 3, [19000003, 6, 7, 8]), (52, 1000003, [3]), (52, 2000003, [2])]
def M_row_Text : FuncId → Bool := fun _ => false
noncomputable def rd_row_Text_52_3 : List U → Rt
  | [.l v0, .i v1, .i v2, .l v3] =>
    (.test (decide (v2 < v1))
    (.test (inR v2 (ln v0))
    (let r0 : Rs := (Rt.res (m_value_Text [U.i (cI (el v0 v2) 0), U.i (cI (el v0 v2) 1), U.s (cS (el v0 v2) 2)]))
    (.test (ok r0 0)
    (.test (decide ((List.length v3 + 1) * 16 ≤ 140737488355328))
    (.next [.l v0, .i v1, .i (w64 (v2 + (1 : Int))), .l (v3 ++ [[pS (uS (out r0 0) 0)]])])
    .fail)
    .fail))
    .fail)
    (.stop 0 [.l v3]))
  | _ => .fail
def sp_row_Text_52_3 : LSp := ⟨22, ⟨[(3, .one (.all 0)), (6, .one (.l 31)), (7, .one (.i .i64)), (8, .one (.i .i64))], [.arr 9 true]⟩, [(.exit 0, ⟨[(3, .one (.all 0))], [.arr 9 true]⟩)]⟩
set_option maxRecDepth 100000 in
theorem rq_row_Text_52_3 (v0 : List (List PV)) (v1 : Int) (v2 : Int) (v3 : List (List PV)) : runK br Tryz.prog (callK br Tryz.prog X114 M_row_Text L_row_Text (lsT []) 40) M_row_Text (lsT [] 52 0) 40 0 (L_row_Text 52) (bodyOf Tryz.prog 52 3) (sp_row_Text_52_3.s.ts sp_row_Text_52_3.n [.l v0, .i v1, .i v2, .l v3]) (sp_row_Text_52_3.s.h [.l v0, .i v1, .i v2, .l v3]) (idc Tryz.prog 0 (L_row_Text 52) 3) =
    (rd_row_Text_52_3 [.l v0, .i v1, .i v2, .l v3]).go br (fun us' => some (.normal, sp_row_Text_52_3.s.ts sp_row_Text_52_3.n us', sp_row_Text_52_3.s.h us')) sp_row_Text_52_3.fin := by
  rw [← callF_eq, ← runF_eq]; kernel_rfl
theorem lo_row_Text_52_3 {R : Type} : LoopTells Tryz.prog X114 M_row_Text L_row_Text 0 (L_row_Text 52) (bodyOf Tryz.prog 52 3) (gL (R := R) sp_row_Text_52_3 rd_row_Text_52_3 br) :=
  loopTold (callK_ev (loopsOK_list rids noneIn) 40) (lsokIn (loopsOK_list rids noneIn) 52 0 3) (by kernel_rfl) sp_row_Text_52_3 rd_row_Text_52_3 rfl (by kernel_rfl) (by
    intro us v h; unfold rd_row_Text_52_3 at h; split at h
    · rename_i v0 v1 v2 v3; exact rq_row_Text_52_3 v0 v1 v2 v3
    · cases h)
noncomputable abbrev ll_row_Text_52_3 {R : Type} : List (Nat × Nat × Nat × Smy R) := (52, 0, 3, gL sp_row_Text_52_3 rd_row_Text_52_3 br) :: []
theorem lk_row_Text_52_3 {R : Type} : ∀ e ∈ ll_row_Text_52_3 (R := R), LoopTells Tryz.prog X114 M_row_Text L_row_Text e.2.1 (L_row_Text e.1) (bodyOf Tryz.prog e.1 e.2.2.1) e.2.2.2 := List.forall_mem_cons.2 ⟨lo_row_Text_52_3, noneIn⟩
def S_row_Text : FSp := ⟨[.one (.l 31)], [], [], [([.one (.s)], [])]⟩
noncomputable def m_row_Text : List U → Rt
  | [.l v0] =>
    (let r0 : Rs := (lres rd_row_Text_52_3 [U.l v0, U.i (ln v0), U.i (0 : Int), U.l []])
    (.test (ok r0 0)
    (.test (joinOk (uL (out r0 0) 0) { data := #[(44 : UInt8), (32 : UInt8)] })
    (.test (decide (1 + ByteArray.size (joinB (uL (out r0 0) 0) { data := #[(44 : UInt8), (32 : UInt8)] }) ≤ 9223372036854775807))
    (.test (decide (ByteArray.size ({ data := #[(40 : UInt8)] } ++ joinB (uL (out r0 0) 0) { data := #[(44 : UInt8), (32 : UInt8)] }) + 1 ≤ 9223372036854775807))
    (.stop 0 [.s ({ data := #[(40 : UInt8)] } ++ joinB (uL (out r0 0) 0) { data := #[(44 : UInt8), (32 : UInt8)] } ++ { data := #[(41 : UInt8)] })])
    .fail)
    .fail)
    .fail)
    .fail))
  | _ => .fail
set_option maxRecDepth 100000 in
theorem q_row_Text (v0 : List (List PV)) : callK br Tryz.prog X114 M_row_Text L_row_Text (lsT ll_row_Text_52_3) 60 52 (encs [.l v0] 0 S_row_Text.ap) (encH [.l v0] (ws S_row_Text.ap) S_row_Text.ah) (fun y => fixR Tryz.prog S_row_Text.plan S_row_Text.ah.length y) =
    (m_row_Text [.l v0]).go br (fun _ => none) S_row_Text.fin := by
  rw [← callF_eq]; kernel_rfl
theorem e_row_Text : EOK Tryz.prog 52 (gF S_row_Text m_row_Text) :=
  eokTold mixed named x114 (loopsOK_list rids lk_row_Text_52_3) 60 S_row_Text m_row_Text (by
    intro us v h; unfold m_row_Text at h; split at h
    · rename_i v0; exact q_row_Text v0
    · cases h) false
noncomputable abbrev X115 : Ext := extT [(52, (gF S_row_Text m_row_Text))] X114
theorem x115 : XOK Tryz.prog X115 := xok1 x114 e_row_Text

/-- levee/bag.Text -/
def L_bag_Text : FuncId → Nat → Option (List Nat) := liveT [(20, 5, [19000003, 10, 11, 12]), (20, 1000005, [3]), (20, 2000005, [2])]
def M_bag_Text : FuncId → Bool := fun _ => false
noncomputable def rd_bag_Text_20_5 : List U → Rt
  | [.l v0, .i v1, .i v2, .l v3] =>
    (.test (decide (v2 < v1))
    (.test (inR v2 (ln v0))
    (let r0 : Rs := (Rt.res (m_row_Text [U.l (cL (el v0 v2) 0)]))
    (.test (ok r0 0)
    (.test (cI (el v0 v2) 1 != (1 : Int))
    (.test (inI64 (cI (el v0 v2) 1))
    (.test (decide (1 + ByteArray.size (itoaB (cI (el v0 v2) 1)) ≤ 9223372036854775807))
    (.test (decide (ByteArray.size (uS (out r0 0) 0) + ByteArray.size ({ data := #[(42 : UInt8)] } ++ itoaB (cI (el v0 v2) 1)) ≤ 9223372036854775807))
    (.test (decide ((List.length v3 + 1) * 16 ≤ 140737488355328))
    (.next [.l v0, .i v1, .i (w64 (v2 + (1 : Int))), .l (v3 ++ [[pS (uS (out r0 0) 0 ++ ({ data := #[(42 : UInt8)] } ++ itoaB (cI (el v0 v2) 1)))]])])
    .fail)
    .fail)
    .fail)
    .fail)
    (.test (decide ((List.length v3 + 1) * 16 ≤ 140737488355328))
    (.next [.l v0, .i v1, .i (w64 (v2 + (1 : Int))), .l (v3 ++ [[pS (uS (out r0 0) 0)]])])
    .fail))
    .fail))
    .fail)
    (.stop 0 [.l v3]))
  | _ => .fail
def sp_bag_Text_20_5 : LSp := ⟨35, ⟨[(3, .one (.all 0)), (10, .one (.l 49)), (11, .one (.i .i64)), (12, .one (.i .i64))], [.arr 9 true]⟩, [(.exit 0, ⟨[(3, .one (.all 0))], [.arr 9 true]⟩)]⟩
set_option maxRecDepth 100000 in
theorem rq_bag_Text_20_5 (v0 : List (List PV)) (v1 : Int) (v2 : Int) (v3 : List (List PV)) : runK br Tryz.prog (callK br Tryz.prog X115 M_bag_Text L_bag_Text (lsT []) 40) M_bag_Text (lsT [] 20 0) 40 0 (L_bag_Text 20) (bodyOf Tryz.prog 20 5) (sp_bag_Text_20_5.s.ts sp_bag_Text_20_5.n [.l v0, .i v1, .i v2, .l v3]) (sp_bag_Text_20_5.s.h [.l v0, .i v1, .i v2, .l v3]) (idc Tryz.prog 0 (L_bag_Text 20) 5) =
    (rd_bag_Text_20_5 [.l v0, .i v1, .i v2, .l v3]).go br (fun us' => some (.normal, sp_bag_Text_20_5.s.ts sp_bag_Text_20_5.n us', sp_bag_Text_20_5.s.h us')) sp_bag_Text_20_5.fin := by
  rw [← callF_eq, ← runF_eq]; kernel_rfl
theorem lo_bag_Text_20_5 {R : Type} : LoopTells Tryz.prog X115 M_bag_Text L_bag_Text 0 (L_bag_Text 20) (bodyOf Tryz.prog 20 5) (gL (R := R) sp_bag_Text_20_5 rd_bag_Text_20_5 br) :=
  loopTold (callK_ev (loopsOK_list rids noneIn) 40) (lsokIn (loopsOK_list rids noneIn) 20 0 5) (by kernel_rfl) sp_bag_Text_20_5 rd_bag_Text_20_5 rfl (by kernel_rfl) (by
    intro us v h; unfold rd_bag_Text_20_5 at h; split at h
    · rename_i v0 v1 v2 v3; exact rq_bag_Text_20_5 v0 v1 v2 v3
    · cases h)
noncomputable abbrev ll_bag_Text_20_5 {R : Type} : List (Nat × Nat × Nat × Smy R) := (20, 0, 5, gL sp_bag_Text_20_5 rd_bag_Text_20_5 br) :: []
theorem lk_bag_Text_20_5 {R : Type} : ∀ e ∈ ll_bag_Text_20_5 (R := R), LoopTells Tryz.prog X115 M_bag_Text L_bag_Text e.2.1 (L_bag_Text e.1) (bodyOf Tryz.prog e.1 e.2.2.1) e.2.2.2 := List.forall_mem_cons.2 ⟨lo_bag_Text_20_5, noneIn⟩
def S_bag_Text : FSp := ⟨[.one (.l 49)], [], [], [([.one (.s)], [])]⟩
noncomputable def m_bag_Text : List U → Rt
  | [.l v0] =>
    (let r0 : Rs := (Rt.res (m_bag_May [U.l v0]))
    (.test (ok r0 0)
    (.test (!uB (out r0 0) 0)
    (.stop 0 [.s ({ data := #[] })])
    (let r1 : Rs := (lres rd_bag_Text_20_5 [U.l v0, U.i (ln v0), U.i (0 : Int), U.l []])
    (.test (ok r1 0)
    (.test (joinOk (uL (out r1 0) 0) { data := #[(32 : UInt8)] })
    (.stop 0 [.s (joinB (uL (out r1 0) 0) { data := #[(32 : UInt8)] })])
    .fail)
    .fail)))
    .fail))
  | _ => .fail
set_option maxRecDepth 100000 in
theorem q_bag_Text (v0 : List (List PV)) : callK br Tryz.prog X115 M_bag_Text L_bag_Text (lsT ll_bag_Text_20_5) 60 20 (encs [.l v0] 0 S_bag_Text.ap) (encH [.l v0] (ws S_bag_Text.ap) S_bag_Text.ah) (fun y => fixR Tryz.prog S_bag_Text.plan S_bag_Text.ah.length y) =
    (m_bag_Text [.l v0]).go br (fun _ => none) S_bag_Text.fin := by
  rw [← callF_eq]; kernel_rfl
theorem e_bag_Text : EOK Tryz.prog 20 (gF S_bag_Text m_bag_Text) :=
  eokTold mixed named x115 (loopsOK_list rids lk_bag_Text_20_5) 60 S_bag_Text m_bag_Text (by
    intro us v h; unfold m_bag_Text at h; split at h
    · rename_i v0; exact q_bag_Text v0
    · cases h) false
noncomputable abbrev X116 : Ext := extT [(20, (gF S_bag_Text m_bag_Text))] X115
theorem x116 : XOK Tryz.prog X116 := xok1 x115 e_bag_Text

/-- levee/bag.find -/
def L_bag_find : FuncId → Nat → Option (List Nat) := liveT [(80, 3, [0, 1, 2, 8, 9, 10]), (80, 1000003, [0, 1, 2, 8, 9]), (80, 2000003, [6, 7])]
def M_bag_find : FuncId → Bool := fun _ => false
noncomputable def rd_bag_find_80_3 : List U → Rt
  | [.l v0, .l v1, .i v2, .i v3, .i v4] =>
    (.test (decide (v3 < v4))
    (.test (inR (w64 (Int.fdiv (IntKind.wrap IntKind.u64 (w64 (v3 + v4))) (2 : Int))) (ln v0))
    (let r0 : Rs := (Rt.res (m_row_Compare [U.l (cL (el v0 (w64 (Int.fdiv (IntKind.wrap IntKind.u64 (w64 (v3 + v4))) (2 : Int)))) 0), U.l v1]))
    (.test (ok r0 0)
    (.test (decide (uI (out r0 0) 0 < (0 : Int)))
    (.next [.l v0, .l v1, .i v2, .i (w64 (w64 (Int.fdiv (IntKind.wrap IntKind.u64 (w64 (v3 + v4))) (2 : Int)) + (1 : Int))), .i v4])
    (.next [.l v0, .l v1, .i v2, .i v3, .i (w64 (Int.fdiv (IntKind.wrap IntKind.u64 (w64 (v3 + v4))) (2 : Int)))]))
    .fail))
    .fail)
    (.stop 0 [.l v0, .l v1, .i v2, .i v3]))
  | _ => .fail
def sp_bag_find_80_3 : LSp := ⟨49, ⟨[(0, .one (.l 49)), (1, .one (.l 31)), (2, .fn 81 []), (8, .one (.i .i64)), (9, .one (.i .i64)), (10, .one (.i .i64))], []⟩, [(.exit 0, ⟨[(0, .one (.l 49)), (1, .one (.l 31)), (2, .fn 81 []), (8, .one (.i .i64)), (9, .one (.i .i64))], []⟩)]⟩
set_option maxRecDepth 100000 in
theorem rq_bag_find_80_3 (v0 : List (List PV)) (v1 : List (List PV)) (v2 : Int) (v3 : Int) (v4 : Int) : runK br Tryz.prog (callK br Tryz.prog X116 M_bag_find L_bag_find (lsT []) 40) M_bag_find (lsT [] 80 0) 40 0 (L_bag_find 80) (bodyOf Tryz.prog 80 3) (sp_bag_find_80_3.s.ts sp_bag_find_80_3.n [.l v0, .l v1, .i v2, .i v3, .i v4]) (sp_bag_find_80_3.s.h [.l v0, .l v1, .i v2, .i v3, .i v4]) (idc Tryz.prog 0 (L_bag_find 80) 3) =
    (rd_bag_find_80_3 [.l v0, .l v1, .i v2, .i v3, .i v4]).go br (fun us' => some (.normal, sp_bag_find_80_3.s.ts sp_bag_find_80_3.n us', sp_bag_find_80_3.s.h us')) sp_bag_find_80_3.fin := by
  rw [← callF_eq, ← runF_eq]; kernel_rfl
theorem lo_bag_find_80_3 {R : Type} : LoopTells Tryz.prog X116 M_bag_find L_bag_find 0 (L_bag_find 80) (bodyOf Tryz.prog 80 3) (gL (R := R) sp_bag_find_80_3 rd_bag_find_80_3 br) :=
  loopTold (callK_ev (loopsOK_list rids noneIn) 40) (lsokIn (loopsOK_list rids noneIn) 80 0 3) (by kernel_rfl) sp_bag_find_80_3 rd_bag_find_80_3 rfl (by kernel_rfl) (by
    intro us v h; unfold rd_bag_find_80_3 at h; split at h
    · rename_i v0 v1 v2 v3 v4; exact rq_bag_find_80_3 v0 v1 v2 v3 v4
    · cases h)
noncomputable abbrev ll_bag_find_80_3 {R : Type} : List (Nat × Nat × Nat × Smy R) := (80, 0, 3, gL sp_bag_find_80_3 rd_bag_find_80_3 br) :: []
theorem lk_bag_find_80_3 {R : Type} : ∀ e ∈ ll_bag_find_80_3 (R := R), LoopTells Tryz.prog X116 M_bag_find L_bag_find e.2.1 (L_bag_find e.1) (bodyOf Tryz.prog e.1 e.2.2.1) e.2.2.2 := List.forall_mem_cons.2 ⟨lo_bag_find_80_3, noneIn⟩
def S_bag_find : FSp := ⟨[.one (.l 49), .one (.l 31)], [], [], [([.one (.i .i64), .one (.b)], [])]⟩
noncomputable def m_bag_find : List U → Rt
  | [.l v0, .l v1] =>
    (let r0 : Rs := (lres rd_bag_find_80_3 [U.l v0, U.l v1, U.i (ln v0), U.i (0 : Int), U.i (ln v0)])
    (.test (ok r0 0)
    (.test (decide (uI (out r0 0) 3 < uI (out r0 0) 2))
    (.test (inR (uI (out r0 0) 3) (ln (uL (out r0 0) 0)))
    (let r1 : Rs := (Rt.res (m_row_Compare [U.l (cL (el (uL (out r0 0) 0) (uI (out r0 0) 3)) 0), U.l (uL (out r0 0) 1)]))
    (.test (ok r1 0)
    (.stop 0 [.i (uI (out r0 0) 3), .b (uI (out r1 0) 0 == (0 : Int))])
    .fail))
    .fail)
    (.stop 0 [.i (uI (out r0 0) 3), .b false]))
    .fail))
  | _ => .fail
set_option maxRecDepth 100000 in
theorem q_bag_find (v0 : List (List PV)) (v1 : List (List PV)) : callK br Tryz.prog X116 M_bag_find L_bag_find (lsT ll_bag_find_80_3) 60 47 (encs [.l v0, .l v1] 0 S_bag_find.ap) (encH [.l v0, .l v1] (ws S_bag_find.ap) S_bag_find.ah) (fun y => fixR Tryz.prog S_bag_find.plan S_bag_find.ah.length y) =
    (m_bag_find [.l v0, .l v1]).go br (fun _ => none) S_bag_find.fin := by
  rw [← callF_eq]; kernel_rfl
theorem e_bag_find : EOK Tryz.prog 47 (gF S_bag_find m_bag_find) :=
  eokTold mixed named x116 (loopsOK_list rids lk_bag_find_80_3) 60 S_bag_find m_bag_find (by
    intro us v h; unfold m_bag_find at h; split at h
    · rename_i v0 v1; exact q_bag_find v0 v1
    · cases h) false
noncomputable abbrev X117 : Ext := extT [(47, (gF S_bag_find m_bag_find))] X116
theorem x117 : XOK Tryz.prog X117 := xok1 x116 e_bag_find

/-- levee/bag.Get -/
def L_bag_Get : FuncId → Nat → Option (List Nat) := liveT []
def M_bag_Get : FuncId → Bool := fun _ => false
def S_bag_Get : FSp := ⟨[.one (.l 49), .one (.l 31)], [], [], [([.one (.i .i64)], [])]⟩
noncomputable def m_bag_Get : List U → Rt
  | [.l v0, .l v1] =>
    (let r0 : Rs := (Rt.res (m_bag_May [U.l v0]))
    (.test (ok r0 0)
    (.test (!uB (out r0 0) 0)
    (.stop 0 [.i ((0 : Int))])
    (let r1 : Rs := (Rt.res (m_bag_find [U.l v0, U.l v1]))
    (.test (ok r1 0)
    (.test (uB (out r1 0) 1)
    (.test (inR (uI (out r1 0) 0) (ln v0))
    (.stop 0 [.i (cI (el v0 (uI (out r1 0) 0)) 1)])
    .fail)
    (.stop 0 [.i ((0 : Int))]))
    .fail)))
    .fail))
  | _ => .fail
set_option maxRecDepth 100000 in
theorem q_bag_Get (v0 : List (List PV)) (v1 : List (List PV)) : callK br Tryz.prog X117 M_bag_Get L_bag_Get (lsT []) 60 13 (encs [.l v0, .l v1] 0 S_bag_Get.ap) (encH [.l v0, .l v1] (ws S_bag_Get.ap) S_bag_Get.ah) (fun y => fixR Tryz.prog S_bag_Get.plan S_bag_Get.ah.length y) =
    (m_bag_Get [.l v0, .l v1]).go br (fun _ => none) S_bag_Get.fin := by
  rw [← callF_eq]; kernel_rfl
theorem e_bag_Get : EOK Tryz.prog 13 (gF S_bag_Get m_bag_Get) :=
  eokTold mixed named x117 (loopsOK_list rids noneIn) 60 S_bag_Get m_bag_Get (by
    intro us v h; unfold m_bag_Get at h; split at h
    · rename_i v0 v1; exact q_bag_Get v0 v1
    · cases h) false
noncomputable abbrev X118 : Ext := extT [(13, (gF S_bag_Get m_bag_Get))] X117
theorem x118 : XOK Tryz.prog X118 := xok1 x117 e_bag_Get

/-- levee/bag.Plus -/
def L_bag_Plus : FuncId → Nat → Option (List Nat) := liveT [(16, 3, [99000003, 7, 8, 9]), (16, 1000003, [3]), (16, 2000003, [2]), (85, 2, [0, 1, 7, 8]), (85, 1000002, []), (85, 2000002, [4])]
def M_bag_Plus : FuncId → Bool := fun _ => false
noncomputable def rd_bag_Plus_16_3 : List U → Rt
  | [.l v0, .i v1, .i v2, .l v3] =>
    (.test (decide (v2 < v1))
    (.test (inR v2 (ln v0))
    (let r0 : Rs := (Rt.res (m_bag_May [U.l (cL (el v0 v2) 0)]))
    (.test (ok r0 0)
    (.test (!uB (out r0 0) 0)
    (.stop 0 [])
    (.test (decide ((List.length v3 + List.length (cL (el v0 v2) 0)) * 32 ≤ 140737488355328))
    (.next [.l v0, .i v1, .i (w64 (v2 + (1 : Int))), .l (v3 ++ cL (el v0 v2) 0)])
    .fail))
    .fail))
    .fail)
    (.stop 1 [.l v3]))
  | _ => .fail
def sp_bag_Plus_16_3 : LSp := ⟨25, ⟨[(3, .one (.all 0)), (7, .one (.l 39)), (8, .one (.i .i64)), (9, .one (.i .i64))], [.arr 49 true]⟩, [(.ret, ⟨[(2, .one (.nils))], []⟩), (.exit 0, ⟨[(3, .one (.all 0))], [.arr 49 true]⟩)]⟩
set_option maxRecDepth 100000 in
theorem rq_bag_Plus_16_3 (v0 : List (List PV)) (v1 : Int) (v2 : Int) (v3 : List (List PV)) : runK br Tryz.prog (callK br Tryz.prog X118 M_bag_Plus L_bag_Plus (lsT []) 40) M_bag_Plus (lsT [] 16 0) 40 0 (L_bag_Plus 16) (bodyOf Tryz.prog 16 3) (sp_bag_Plus_16_3.s.ts sp_bag_Plus_16_3.n [.l v0, .i v1, .i v2, .l v3]) (sp_bag_Plus_16_3.s.h [.l v0, .i v1, .i v2, .l v3]) (idc Tryz.prog 0 (L_bag_Plus 16) 3) =
    (rd_bag_Plus_16_3 [.l v0, .i v1, .i v2, .l v3]).go br (fun us' => some (.normal, sp_bag_Plus_16_3.s.ts sp_bag_Plus_16_3.n us', sp_bag_Plus_16_3.s.h us')) sp_bag_Plus_16_3.fin := by
  rw [← callF_eq, ← runF_eq]; kernel_rfl
theorem lo_bag_Plus_16_3 {R : Type} : LoopTells Tryz.prog X118 M_bag_Plus L_bag_Plus 0 (L_bag_Plus 16) (bodyOf Tryz.prog 16 3) (gL (R := R) sp_bag_Plus_16_3 rd_bag_Plus_16_3 br) :=
  loopTold (callK_ev (loopsOK_list rids noneIn) 40) (lsokIn (loopsOK_list rids noneIn) 16 0 3) (by kernel_rfl) sp_bag_Plus_16_3 rd_bag_Plus_16_3 rfl (by kernel_rfl) (by
    intro us v h; unfold rd_bag_Plus_16_3 at h; split at h
    · rename_i v0 v1 v2 v3; exact rq_bag_Plus_16_3 v0 v1 v2 v3
    · cases h)
noncomputable abbrev ll_bag_Plus_16_3 {R : Type} : List (Nat × Nat × Nat × Smy R) := (16, 0, 3, gL sp_bag_Plus_16_3 rd_bag_Plus_16_3 br) :: []
theorem lk_bag_Plus_16_3 {R : Type} : ∀ e ∈ ll_bag_Plus_16_3 (R := R), LoopTells Tryz.prog X118 M_bag_Plus L_bag_Plus e.2.1 (L_bag_Plus e.1) (bodyOf Tryz.prog e.1 e.2.2.1) e.2.2.2 := List.forall_mem_cons.2 ⟨lo_bag_Plus_16_3, noneIn⟩
noncomputable def rd_bag_Plus_85_2 : List U → Rt
  | [.l v0, .i v1, .i v2] =>
    (.test (decide (v2 < v1))
    (.test (inR v2 (ln v0))
    (let r0 : Rs := (Rt.res (m_bag_fits [U.i (cI (el v0 v2) 1)]))
    (.test (ok r0 0)
    (.test (!uB (out r0 0) 0)
    (.stop 0 [.i v2])
    (.next [.l v0, .i v1, .i (w64 (v2 + (1 : Int)))]))
    .fail))
    .fail)
    (.stop 1 []))
  | _ => .fail
def sp_bag_Plus_85_2 : LSp := ⟨19, ⟨[(0, .one (.l 49)), (1, .fn 50 []), (7, .one (.i .i64)), (8, .one (.i .i64))], []⟩, [(.ret, ⟨[(4, .one (.i .i64))], []⟩), (.exit 0, ⟨[], []⟩)]⟩
set_option maxRecDepth 100000 in
theorem rq_bag_Plus_85_2 (v0 : List (List PV)) (v1 : Int) (v2 : Int) : runK br Tryz.prog (callK br Tryz.prog X118 M_bag_Plus L_bag_Plus (lsT ll_bag_Plus_16_3) 40) M_bag_Plus (lsT ll_bag_Plus_16_3 85 0) 40 0 (L_bag_Plus 85) (bodyOf Tryz.prog 85 2) (sp_bag_Plus_85_2.s.ts sp_bag_Plus_85_2.n [.l v0, .i v1, .i v2]) (sp_bag_Plus_85_2.s.h [.l v0, .i v1, .i v2]) (idc Tryz.prog 0 (L_bag_Plus 85) 2) =
    (rd_bag_Plus_85_2 [.l v0, .i v1, .i v2]).go br (fun us' => some (.normal, sp_bag_Plus_85_2.s.ts sp_bag_Plus_85_2.n us', sp_bag_Plus_85_2.s.h us')) sp_bag_Plus_85_2.fin := by
  rw [← callF_eq, ← runF_eq]; kernel_rfl
theorem lo_bag_Plus_85_2 {R : Type} : LoopTells Tryz.prog X118 M_bag_Plus L_bag_Plus 0 (L_bag_Plus 85) (bodyOf Tryz.prog 85 2) (gL (R := R) sp_bag_Plus_85_2 rd_bag_Plus_85_2 br) :=
  loopTold (callK_ev (loopsOK_list rids lk_bag_Plus_16_3) 40) (lsokIn (loopsOK_list rids lk_bag_Plus_16_3) 85 0 2) (by kernel_rfl) sp_bag_Plus_85_2 rd_bag_Plus_85_2 rfl (by kernel_rfl) (by
    intro us v h; unfold rd_bag_Plus_85_2 at h; split at h
    · rename_i v0 v1 v2; exact rq_bag_Plus_85_2 v0 v1 v2
    · cases h)
noncomputable abbrev ll_bag_Plus_85_2 {R : Type} : List (Nat × Nat × Nat × Smy R) := (85, 0, 2, gL sp_bag_Plus_85_2 rd_bag_Plus_85_2 br) :: ll_bag_Plus_16_3
theorem lk_bag_Plus_85_2 {R : Type} : ∀ e ∈ ll_bag_Plus_85_2 (R := R), LoopTells Tryz.prog X118 M_bag_Plus L_bag_Plus e.2.1 (L_bag_Plus e.1) (bodyOf Tryz.prog e.1 e.2.2.1) e.2.2.2 := List.forall_mem_cons.2 ⟨lo_bag_Plus_85_2, lk_bag_Plus_16_3⟩
def S_bag_Plus : FSp := ⟨[.one (.l 39)], [], [99000000], [([.one (.all 0)], [.arr 49 true])]⟩
noncomputable def m_bag_Plus : List U → Rt
  | [.l v0] =>
    (let r0 : Rs := (lres rd_bag_Plus_16_3 [U.l v0, U.i (ln v0), U.i (0 : Int), U.l []])
    (.test (ok r0 0)
    (.stop 0 [.l []])
    (.test (ok r0 1)
    (let r1 : Rs := (Rt.res (m_bag_Sum [U.l (uL (out r0 1) 0)]))
    (.test (ok r1 0)
    (let r2 : Rs := (lres rd_bag_Plus_85_2 [U.l (uL (out r1 0) 0), U.i (ln (uL (out r1 0) 0)), U.i (0 : Int)])
    (.test (ok r2 0)
    (.test (decide (uI (out r2 0) 0 ≥ (0 : Int)))
    (.stop 0 [.l []])
    (.stop 0 [.l (uL (out r1 0) 0)]))
    (.test (ok r2 1)
    (.stop 0 [.l (uL (out r1 0) 0)])
    .fail)))
    .fail))
    .fail)))
  | _ => .fail
set_option maxRecDepth 100000 in
theorem q_bag_Plus (v0 : List (List PV)) : callK br Tryz.prog X118 M_bag_Plus L_bag_Plus (lsT ll_bag_Plus_85_2) 60 16 (encs [.l v0] 0 S_bag_Plus.ap) (encH [.l v0] (ws S_bag_Plus.ap) S_bag_Plus.ah) (fun y => fixR Tryz.prog S_bag_Plus.plan S_bag_Plus.ah.length y) =
    (m_bag_Plus [.l v0]).go br (fun _ => none) S_bag_Plus.fin := by
  rw [← callF_eq]; kernel_rfl
theorem e_bag_Plus : EOK Tryz.prog 16 (gF S_bag_Plus m_bag_Plus) :=
  eokTold mixed named x118 (loopsOK_list rids lk_bag_Plus_85_2) 60 S_bag_Plus m_bag_Plus (by
    intro us v h; unfold m_bag_Plus at h; split at h
    · rename_i v0; exact q_bag_Plus v0
    · cases h) false
noncomputable abbrev X119 : Ext := extT [(16, (gF S_bag_Plus m_bag_Plus))] X118
theorem x119 : XOK Tryz.prog X119 := xok1 x118 e_bag_Plus

/-- levee/leveelaw05.fixed -/
def L_L05_fixed : FuncId → Nat → Option (List Nat) := liveT []
def M_L05_fixed : FuncId → Bool := fun _ => false
def S_L05_fixed : FSp := ⟨[], [], [], [([.one (.b)], [])]⟩
noncomputable def m_L05_fixed : List U → Rt
  | [] =>
    (let r0 : Rs := (Rt.res (m_bag_Of [U.l [[PV.lst 31 [[pI (2 : Int), pI (2 : Int), pS { data := #[] }]]], [PV.lst 31 [[pI (2 : Int), pI (1 : Int), pS { data := #[] }]]], [PV.lst 31 [[pI (2 : Int), pI (2 : Int), pS { data := #[] }]]]]]))
    (.test (ok r0 0)
    (let r1 : Rs := (Rt.res (m_bag_Rows [U.l (uL (out r0 0) 0)]))
    (.test (ok r1 0)
    (let r2 : Rs := (Rt.res (m_bag_Neg [U.l (uL (out r0 0) 0)]))
    (.test (ok r2 0)
    (let r3 : Rs := (Rt.res (m_bag_Rows [U.l (uL (out r2 0) 0)]))
    (.test (ok r3 0)
    (let r4 : Rs := (Rt.res (m_bag_Text [U.l (uL (out r0 0) 0)]))
    (.test (ok r4 0)
    (.test (ByteArray.toList (uS (out r4 0) 0) == [(40 : UInt8), (49 : UInt8), (41 : UInt8), (32 : UInt8), (40 : UInt8), (50 : UInt8), (41 : UInt8), (42 : UInt8), (50 : UInt8)])
    (let r5 : Rs := (Rt.res (m_bag_Get [U.l (uL (out r0 0) 0), U.l [[pI (2 : Int), pI (2 : Int), pS { data := #[] }]]]))
    (.test (ok r5 0)
    (.test (uI (out r5 0) 0 == (2 : Int))
    (let r6 : Rs := (Rt.res (m_bag_Neg [U.l (uL (out r0 0) 0)]))
    (.test (ok r6 0)
    (let r7 : Rs := (Rt.res (m_bag_Plus [U.l [[PV.lst 49 (uL (out r0 0) 0)], [PV.lst 49 (uL (out r6 0) 0)]]]))
    (.test (ok r7 0)
    (.test (ln (uL (out r7 0) 0) == (0 : Int))
    (.test (uB (out r1 0) 0)
    (.test (ln (uL (out r1 0) 1) == (3 : Int))
    (.test (!uB (out r3 0) 0)
    (let r8 : Rs := (Rt.res (m_bag_Neg [U.l (uL (out r0 0) 0)]))
    (.test (ok r8 0)
    (let r9 : Rs := (Rt.res (m_bag_Text [U.l (uL (out r8 0) 0)]))
    (.test (ok r9 0)
    (.test (ByteArray.toList (uS (out r9 0) 0) == [(40 : UInt8), (49 : UInt8), (41 : UInt8), (42 : UInt8), (45 : UInt8), (49 : UInt8), (32 : UInt8), (40 : UInt8), (50 : UInt8), (41 : UInt8), (42 : UInt8), (45 : UInt8), (50 : UInt8)])
    (let r10 : Rs := (Rt.res (m_bag_May [U.l (uL (out r0 0) 0)]))
    (.test (ok r10 0)
    (.test (uB (out r10 0) 0)
    (let r11 : Rs := (Rt.res (m_bag_May [U.l [[PV.lst 31 [], pI (0 : Int)]]]))
    (.test (ok r11 0)
    (.test (!uB (out r11 0) 0)
    (let r12 : Rs := (Rt.res (m_bag_Plus [U.l []]))
    (.test (ok r12 0)
    (.stop 0 [.b (ln (uL (out r12 0) 0) == (0 : Int))])
    .fail))
    (.stop 0 [.b false]))
    .fail))
    (.stop 0 [.b false]))
    .fail))
    (.stop 0 [.b false]))
    .fail))
    .fail))
    (.stop 0 [.b false]))
    (.stop 0 [.b false]))
    (.stop 0 [.b false]))
    (.stop 0 [.b false]))
    .fail))
    .fail))
    (.stop 0 [.b false]))
    .fail))
    (.stop 0 [.b false]))
    .fail))
    .fail))
    .fail))
    .fail))
    .fail))
  | _ => .fail
set_option maxRecDepth 100000 in
theorem q_L05_fixed : callK br Tryz.prog X119 M_L05_fixed L_L05_fixed (lsT []) 60 10 (encs [] 0 S_L05_fixed.ap) (encH [] (ws S_L05_fixed.ap) S_L05_fixed.ah) (fun y => fixR Tryz.prog S_L05_fixed.plan S_L05_fixed.ah.length y) =
    (m_L05_fixed []).go br (fun _ => none) S_L05_fixed.fin := by
  rw [← callF_eq]; kernel_rfl
theorem e_L05_fixed : EOK Tryz.prog 10 (gF S_L05_fixed m_L05_fixed) :=
  eokTold mixed named x119 (loopsOK_list rids noneIn) 60 S_L05_fixed m_L05_fixed (by
    intro us v h; unfold m_L05_fixed at h; split at h
    · exact q_L05_fixed
    · cases h) false
noncomputable abbrev X120 : Ext := extT [(10, (gF S_L05_fixed m_L05_fixed))] X119
theorem x120 : XOK Tryz.prog X120 := xok1 x119 e_L05_fixed

/-- levee/leveeref05.Fits -/
def L_R05_Fits : FuncId → Nat → Option (List Nat) := liveT []
def M_R05_Fits : FuncId → Bool := fun _ => false
def S_R05_Fits : FSp := ⟨[.one (.i .i64)], [], [], [([.one (.b)], [])]⟩
noncomputable def m_R05_Fits : List U → Rt
  | [.i v0] =>
    (.test (decide (v0 ≥ (-1000000000 : Int)))
    (.stop 0 [.b (decide (v0 ≤ (1000000000 : Int)))])
    (.stop 0 [.b false]))
  | _ => .fail
set_option maxRecDepth 100000 in
theorem q_R05_Fits (v0 : Int) : callK br Tryz.prog X120 M_R05_Fits L_R05_Fits (lsT []) 60 44 (encs [.i v0] 0 S_R05_Fits.ap) (encH [.i v0] (ws S_R05_Fits.ap) S_R05_Fits.ah) (fun y => fixR Tryz.prog S_R05_Fits.plan S_R05_Fits.ah.length y) =
    (m_R05_Fits [.i v0]).go br (fun _ => none) S_R05_Fits.fin := by
  rw [← callF_eq]; kernel_rfl
theorem e_R05_Fits : EOK Tryz.prog 44 (gF S_R05_Fits m_R05_Fits) :=
  eokTold mixed named x120 (loopsOK_list rids noneIn) 60 S_R05_Fits m_R05_Fits (by
    intro us v h; unfold m_R05_Fits at h; split at h
    · rename_i v0; exact q_R05_Fits v0
    · cases h) false
noncomputable abbrev X121 : Ext := extT [(44, (gF S_R05_Fits m_R05_Fits))] X120
theorem x121 : XOK Tryz.prog X121 := xok1 x120 e_R05_Fits

/-- levee/leveeref01.May -/
def L_R01_May : FuncId → Nat → Option (List Nat) := liveT []
def M_R01_May : FuncId → Bool := fun _ => false
def S_R01_May : FSp := ⟨[.agg [.i .i64, .i .i64, .s]], [], [], [([.one (.b)], [])]⟩
noncomputable def m_R01_May : List U → Rt
  | [.i v0, .i v1, .s v2] =>
    (.test (v0 == (0 : Int))
    (.test (ByteArray.toList v2 == [])
    (.test (decide (v1 ≥ (0 : Int)))
    (.stop 0 [.b (decide (v1 ≤ v0))])
    (.stop 0 [.b false]))
    (.stop 0 [.b false]))
    (.test (v0 == (1 : Int))
    (.test (ByteArray.toList v2 == [])
    (.test (decide (v1 ≥ (0 : Int)))
    (.stop 0 [.b (decide (v1 ≤ v0))])
    (.stop 0 [.b false]))
    (.stop 0 [.b false]))
    (.test (v0 == (2 : Int))
    (.stop 0 [.b (ByteArray.toList v2 == [])])
    (.test (v0 == (3 : Int))
    (.test (v1 == (0 : Int))
    (.stop 0 [.b (decide ((↑(ByteArray.size v2) : Int) ≤ (1000 : Int)))])
    (.stop 0 [.b false]))
    (.stop 0 [.b false])))))
  | _ => .fail
set_option maxRecDepth 100000 in
theorem q_R01_May (v0 : Int) (v1 : Int) (v2 : ByteArray) : callK br Tryz.prog X121 M_R01_May L_R01_May (lsT []) 60 35 (encs [.i v0, .i v1, .s v2] 0 S_R01_May.ap) (encH [.i v0, .i v1, .s v2] (ws S_R01_May.ap) S_R01_May.ah) (fun y => fixR Tryz.prog S_R01_May.plan S_R01_May.ah.length y) =
    (m_R01_May [.i v0, .i v1, .s v2]).go br (fun _ => none) S_R01_May.fin := by
  rw [← callF_eq]; kernel_rfl
theorem e_R01_May : EOK Tryz.prog 35 (gF S_R01_May m_R01_May) :=
  eokTold mixed named x121 (loopsOK_list rids noneIn) 60 S_R01_May m_R01_May (by
    intro us v h; unfold m_R01_May at h; split at h
    · rename_i v0 v1 v2; exact q_R01_May v0 v1 v2
    · cases h) false
noncomputable abbrev X122 : Ext := extT [(35, (gF S_R01_May m_R01_May))] X121
theorem x122 : XOK Tryz.prog X122 := xok1 x121 e_R01_May

/-- levee/leveeref02.May -/
def L_R02_May : FuncId → Nat → Option (List Nat) := liveT [(79, 2, [0, 3]), (79, 1000002, []), (79, 2000002, [2])]
def M_R02_May : FuncId → Bool := fun _ => false
noncomputable def rd_R02_May_79_2 : List U → Rt
  | [.l v0, .i v1] =>
    (.test (decide (v1 < ln v0))
    (.test (inR v1 (ln v0))
    (let r0 : Rs := (Rt.res (m_R01_May [U.i (cI (el v0 v1) 0), U.i (cI (el v0 v1) 1), U.s (cS (el v0 v1) 2)]))
    (.test (ok r0 0)
    (.test (!uB (out r0 0) 0)
    (.stop 0 [.b false])
    (.next [.l v0, .i (w64 (v1 + (1 : Int)))]))
    .fail))
    .fail)
    (.stop 1 []))
  | _ => .fail
def sp_R02_May_79_2 : LSp := ⟨16, ⟨[(0, .one (.l 31)), (3, .one (.i .i64))], []⟩, [(.ret, ⟨[(2, .one (.b))], []⟩), (.exit 0, ⟨[], []⟩)]⟩
set_option maxRecDepth 100000 in
theorem rq_R02_May_79_2 (v0 : List (List PV)) (v1 : Int) : runK br Tryz.prog (callK br Tryz.prog X122 M_R02_May L_R02_May (lsT []) 40) M_R02_May (lsT [] 79 0) 40 0 (L_R02_May 79) (bodyOf Tryz.prog 79 2) (sp_R02_May_79_2.s.ts sp_R02_May_79_2.n [.l v0, .i v1]) (sp_R02_May_79_2.s.h [.l v0, .i v1]) (idc Tryz.prog 0 (L_R02_May 79) 2) =
    (rd_R02_May_79_2 [.l v0, .i v1]).go br (fun us' => some (.normal, sp_R02_May_79_2.s.ts sp_R02_May_79_2.n us', sp_R02_May_79_2.s.h us')) sp_R02_May_79_2.fin := by
  rw [← callF_eq, ← runF_eq]; kernel_rfl
theorem lo_R02_May_79_2 {R : Type} : LoopTells Tryz.prog X122 M_R02_May L_R02_May 0 (L_R02_May 79) (bodyOf Tryz.prog 79 2) (gL (R := R) sp_R02_May_79_2 rd_R02_May_79_2 br) :=
  loopTold (callK_ev (loopsOK_list rids noneIn) 40) (lsokIn (loopsOK_list rids noneIn) 79 0 2) (by kernel_rfl) sp_R02_May_79_2 rd_R02_May_79_2 rfl (by kernel_rfl) (by
    intro us v h; unfold rd_R02_May_79_2 at h; split at h
    · rename_i v0 v1; exact rq_R02_May_79_2 v0 v1
    · cases h)
noncomputable abbrev ll_R02_May_79_2 {R : Type} : List (Nat × Nat × Nat × Smy R) := (79, 0, 2, gL sp_R02_May_79_2 rd_R02_May_79_2 br) :: []
theorem lk_R02_May_79_2 {R : Type} : ∀ e ∈ ll_R02_May_79_2 (R := R), LoopTells Tryz.prog X122 M_R02_May L_R02_May e.2.1 (L_R02_May e.1) (bodyOf Tryz.prog e.1 e.2.2.1) e.2.2.2 := List.forall_mem_cons.2 ⟨lo_R02_May_79_2, noneIn⟩
def S_R02_May : FSp := ⟨[.one (.l 31)], [], [], [([.one (.b)], [])]⟩
noncomputable def m_R02_May : List U → Rt
  | [.l v0] =>
    (let r0 : Rs := (lres rd_R02_May_79_2 [U.l v0, U.i (0 : Int)])
    (.test (ok r0 0)
    (.stop 0 [.b (uB (out r0 0) 0)])
    (.test (ok r0 1)
    (.stop 0 [.b true])
    .fail)))
  | _ => .fail
set_option maxRecDepth 100000 in
theorem q_R02_May (v0 : List (List PV)) : callK br Tryz.prog X122 M_R02_May L_R02_May (lsT ll_R02_May_79_2) 60 79 (encs [.l v0] 0 S_R02_May.ap) (encH [.l v0] (ws S_R02_May.ap) S_R02_May.ah) (fun y => fixR Tryz.prog S_R02_May.plan S_R02_May.ah.length y) =
    (m_R02_May [.l v0]).go br (fun _ => none) S_R02_May.fin := by
  rw [← callF_eq]; kernel_rfl
theorem e_R02_May : EOK Tryz.prog 79 (gF S_R02_May m_R02_May) :=
  eokTold mixed named x122 (loopsOK_list rids lk_R02_May_79_2) 60 S_R02_May m_R02_May (by
    intro us v h; unfold m_R02_May at h; split at h
    · rename_i v0; exact q_R02_May v0
    · cases h) false
noncomputable abbrev X123 : Ext := extT [(79, (gF S_R02_May m_R02_May))] X122
theorem x123 : XOK Tryz.prog X123 := xok1 x122 e_R02_May

/-- levee/leveeref04.May -/
def L_R04_May : FuncId → Nat → Option (List Nat) := liveT []
def M_R04_May : FuncId → Bool := fun _ => false
def S_R04_May : FSp := ⟨[.one (.l 31)], [], [], [([.one (.b)], [])]⟩
noncomputable def m_R04_May : List U → Rt
  | [.l v0] =>
    (.test (decide (ln v0 ≤ (40 : Int)))
    (let r0 : Rs := (Rt.res (m_R02_May [U.l v0]))
    (.test (ok r0 0)
    (.stop 0 [.b (uB (out r0 0) 0)])
    .fail))
    (.stop 0 [.b false]))
  | _ => .fail
set_option maxRecDepth 100000 in
theorem q_R04_May (v0 : List (List PV)) : callK br Tryz.prog X123 M_R04_May L_R04_May (lsT []) 60 45 (encs [.l v0] 0 S_R04_May.ap) (encH [.l v0] (ws S_R04_May.ap) S_R04_May.ah) (fun y => fixR Tryz.prog S_R04_May.plan S_R04_May.ah.length y) =
    (m_R04_May [.l v0]).go br (fun _ => none) S_R04_May.fin := by
  rw [← callF_eq]; kernel_rfl
theorem e_R04_May : EOK Tryz.prog 45 (gF S_R04_May m_R04_May) :=
  eokTold mixed named x123 (loopsOK_list rids noneIn) 60 S_R04_May m_R04_May (by
    intro us v h; unfold m_R04_May at h; split at h
    · rename_i v0; exact q_R04_May v0
    · cases h) false
noncomputable abbrev X124 : Ext := extT [(45, (gF S_R04_May m_R04_May))] X123
theorem x124 : XOK Tryz.prog X124 := xok1 x123 e_R04_May

/-- levee/leveeref01.Compare -/
def L_R01_Compare : FuncId → Nat → Option (List Nat) := liveT []
def M_R01_Compare : FuncId → Bool := fun _ => false
def S_R01_Compare : FSp := ⟨[.agg [.i .i64, .i .i64, .s], .agg [.i .i64, .i .i64, .s]], [], [], [([.one (.i .i64)], [])]⟩
noncomputable def m_R01_Compare : List U → Rt
  | [.i v0, .i v1, .s v2, .i v3, .i v4, .s v5] =>
    (.test (v0 != v3)
    (.test (decide (v0 < v3))
    (.stop 0 [.i ((-1 : Int))])
    (.stop 0 [.i ((1 : Int))]))
    (.test (v1 != v4)
    (.test (decide (v1 < v4))
    (.stop 0 [.i ((-1 : Int))])
    (.stop 0 [.i ((1 : Int))]))
    (.test (Op.bytesLess (ByteArray.toList v2) (ByteArray.toList v5))
    (.stop 0 [.i ((-1 : Int))])
    (.test (!(Op.bytesLess (ByteArray.toList v2) (ByteArray.toList v5) || ByteArray.toList v2 == ByteArray.toList v5))
    (.stop 0 [.i ((1 : Int))])
    (.stop 0 [.i ((0 : Int))])))))
  | _ => .fail
set_option maxRecDepth 100000 in
theorem q_R01_Compare (v0 : Int) (v1 : Int) (v2 : ByteArray) (v3 : Int) (v4 : Int) (v5 : ByteArray) : callK br Tryz.prog X124 M_R01_Compare L_R01_Compare (lsT []) 60 75 (encs [.i v0, .i v1, .s v2, .i v3, .i v4, .s v5] 0 S_R01_Compare.ap) (encH [.i v0, .i v1, .s v2, .i v3, .i v4, .s v5] (ws S_R01_Compare.ap) S_R01_Compare.ah) (fun y => fixR Tryz.prog S_R01_Compare.plan S_R01_Compare.ah.length y) =
    (m_R01_Compare [.i v0, .i v1, .s v2, .i v3, .i v4, .s v5]).go br (fun _ => none) S_R01_Compare.fin := by
  rw [← callF_eq]; kernel_rfl
theorem e_R01_Compare : EOK Tryz.prog 75 (gF S_R01_Compare m_R01_Compare) :=
  eokTold mixed named x124 (loopsOK_list rids noneIn) 60 S_R01_Compare m_R01_Compare (by
    intro us v h; unfold m_R01_Compare at h; split at h
    · rename_i v0 v1 v2 v3 v4 v5; exact q_R01_Compare v0 v1 v2 v3 v4 v5
    · cases h) false
noncomputable abbrev X125 : Ext := extT [(75, (gF S_R01_Compare m_R01_Compare))] X124
theorem x125 : XOK Tryz.prog X125 := xok1 x124 e_R01_Compare

/-- levee/leveeref02.Compare -/
def L_R02_Compare : FuncId → Nat → Option (List Nat) := liveT [(46, 2, [0, 1, 5]), (46, 1000002, [0, 1]), (46, 2000002, [4])]
def M_R02_Compare : FuncId → Bool := fun _ => false
noncomputable def rd_R02_Compare_46_2 : List U → Rt
  | [.l v0, .l v1, .i v2] =>
    (.test (decide (v2 < ln v0))
    (.test (decide (v2 < ln v1))
    (.test (inR v2 (ln v0))
    (.test (inR v2 (ln v1))
    (let r0 : Rs := (Rt.res (m_R01_Compare [U.i (cI (el v0 v2) 0), U.i (cI (el v0 v2) 1), U.s (cS (el v0 v2) 2), U.i (cI (el v1 v2) 0), U.i (cI (el v1 v2) 1), U.s (cS (el v1 v2) 2)]))
    (.test (ok r0 0)
    (.test (uI (out r0 0) 0 != (0 : Int))
    (.stop 0 [.i (uI (out r0 0) 0)])
    (.next [.l v0, .l v1, .i (w64 (v2 + (1 : Int)))]))
    .fail))
    .fail)
    .fail)
    (.stop 1 [.l v0, .l v1]))
    (.stop 1 [.l v0, .l v1]))
  | _ => .fail
def sp_R02_Compare_46_2 : LSp := ⟨41, ⟨[(0, .one (.l 31)), (1, .one (.l 31)), (5, .one (.i .i64))], []⟩, [(.ret, ⟨[(4, .one (.i .i64))], []⟩), (.exit 0, ⟨[(0, .one (.l 31)), (1, .one (.l 31))], []⟩)]⟩
set_option maxRecDepth 100000 in
theorem rq_R02_Compare_46_2 (v0 : List (List PV)) (v1 : List (List PV)) (v2 : Int) : runK br Tryz.prog (callK br Tryz.prog X125 M_R02_Compare L_R02_Compare (lsT []) 40) M_R02_Compare (lsT [] 46 0) 40 0 (L_R02_Compare 46) (bodyOf Tryz.prog 46 2) (sp_R02_Compare_46_2.s.ts sp_R02_Compare_46_2.n [.l v0, .l v1, .i v2]) (sp_R02_Compare_46_2.s.h [.l v0, .l v1, .i v2]) (idc Tryz.prog 0 (L_R02_Compare 46) 2) =
    (rd_R02_Compare_46_2 [.l v0, .l v1, .i v2]).go br (fun us' => some (.normal, sp_R02_Compare_46_2.s.ts sp_R02_Compare_46_2.n us', sp_R02_Compare_46_2.s.h us')) sp_R02_Compare_46_2.fin := by
  rw [← callF_eq, ← runF_eq]; kernel_rfl
theorem lo_R02_Compare_46_2 {R : Type} : LoopTells Tryz.prog X125 M_R02_Compare L_R02_Compare 0 (L_R02_Compare 46) (bodyOf Tryz.prog 46 2) (gL (R := R) sp_R02_Compare_46_2 rd_R02_Compare_46_2 br) :=
  loopTold (callK_ev (loopsOK_list rids noneIn) 40) (lsokIn (loopsOK_list rids noneIn) 46 0 2) (by kernel_rfl) sp_R02_Compare_46_2 rd_R02_Compare_46_2 rfl (by kernel_rfl) (by
    intro us v h; unfold rd_R02_Compare_46_2 at h; split at h
    · rename_i v0 v1 v2; exact rq_R02_Compare_46_2 v0 v1 v2
    · cases h)
noncomputable abbrev ll_R02_Compare_46_2 {R : Type} : List (Nat × Nat × Nat × Smy R) := (46, 0, 2, gL sp_R02_Compare_46_2 rd_R02_Compare_46_2 br) :: []
theorem lk_R02_Compare_46_2 {R : Type} : ∀ e ∈ ll_R02_Compare_46_2 (R := R), LoopTells Tryz.prog X125 M_R02_Compare L_R02_Compare e.2.1 (L_R02_Compare e.1) (bodyOf Tryz.prog e.1 e.2.2.1) e.2.2.2 := List.forall_mem_cons.2 ⟨lo_R02_Compare_46_2, noneIn⟩
def S_R02_Compare : FSp := ⟨[.one (.l 31), .one (.l 31)], [], [], [([.one (.i .i64)], [])]⟩
noncomputable def m_R02_Compare : List U → Rt
  | [.l v0, .l v1] =>
    (let r0 : Rs := (lres rd_R02_Compare_46_2 [U.l v0, U.l v1, U.i (0 : Int)])
    (.test (ok r0 0)
    (.stop 0 [.i (uI (out r0 0) 0)])
    (.test (ok r0 1)
    (.test (decide (ln (uL (out r0 1) 0) < ln (uL (out r0 1) 1)))
    (.stop 0 [.i ((-1 : Int))])
    (.test (decide (ln (uL (out r0 1) 0) > ln (uL (out r0 1) 1)))
    (.stop 0 [.i ((1 : Int))])
    (.stop 0 [.i ((0 : Int))])))
    .fail)))
  | _ => .fail
set_option maxRecDepth 100000 in
theorem q_R02_Compare (v0 : List (List PV)) (v1 : List (List PV)) : callK br Tryz.prog X125 M_R02_Compare L_R02_Compare (lsT ll_R02_Compare_46_2) 60 46 (encs [.l v0, .l v1] 0 S_R02_Compare.ap) (encH [.l v0, .l v1] (ws S_R02_Compare.ap) S_R02_Compare.ah) (fun y => fixR Tryz.prog S_R02_Compare.plan S_R02_Compare.ah.length y) =
    (m_R02_Compare [.l v0, .l v1]).go br (fun _ => none) S_R02_Compare.fin := by
  rw [← callF_eq]; kernel_rfl
theorem e_R02_Compare : EOK Tryz.prog 46 (gF S_R02_Compare m_R02_Compare) :=
  eokTold mixed named x125 (loopsOK_list rids lk_R02_Compare_46_2) 60 S_R02_Compare m_R02_Compare (by
    intro us v h; unfold m_R02_Compare at h; split at h
    · rename_i v0 v1; exact q_R02_Compare v0 v1
    · cases h) false
noncomputable abbrev X126 : Ext := extT [(46, (gF S_R02_Compare m_R02_Compare))] X125
theorem x126 : XOK Tryz.prog X126 := xok1 x125 e_R02_Compare

/-- levee/leveeref05.May -/
def L_R05_May : FuncId → Nat → Option (List Nat) := liveT [(12, 2, [0, 3]), (12, 1000002, []), (12, 2000002, [2])]
def M_R05_May : FuncId → Bool := fun _ => false
noncomputable def rd_R05_May_12_2 : List U → Rt
  | [.l v0, .i v1] =>
    (.test (decide (v1 < ln v0))
    (.test (inR v1 (ln v0))
    (.test (cI (el v0 v1) 1 == (0 : Int))
    (.stop 0 [.b false])
    (.test (inR v1 (ln v0))
    (let r0 : Rs := (Rt.res (m_R05_Fits [U.i (cI (el v0 v1) 1)]))
    (.test (ok r0 0)
    (.test (!uB (out r0 0) 0)
    (.stop 0 [.b false])
    (.test (inR v1 (ln v0))
    (let r1 : Rs := (Rt.res (m_R04_May [U.l (cL (el v0 v1) 0)]))
    (.test (ok r1 0)
    (.test (!uB (out r1 0) 0)
    (.stop 0 [.b false])
    (.test (decide (v1 > (0 : Int)))
    (.test (inR (w64 (v1 - (1 : Int))) (ln v0))
    (.test (inR v1 (ln v0))
    (let r2 : Rs := (Rt.res (m_R02_Compare [U.l (cL (el v0 (w64 (v1 - (1 : Int)))) 0), U.l (cL (el v0 v1) 0)]))
    (.test (ok r2 0)
    (.test (decide (uI (out r2 0) 0 ≥ (0 : Int)))
    (.stop 0 [.b false])
    (.next [.l v0, .i (w64 (v1 + (1 : Int)))]))
    .fail))
    .fail)
    .fail)
    (.next [.l v0, .i (w64 (v1 + (1 : Int)))])))
    .fail))
    .fail))
    .fail))
    .fail))
    .fail)
    (.stop 1 []))
  | _ => .fail
def sp_R05_May_12_2 : LSp := ⟨53, ⟨[(0, .one (.l 49)), (3, .one (.i .i64))], []⟩, [(.ret, ⟨[(2, .one (.b))], []⟩), (.exit 0, ⟨[], []⟩)]⟩
set_option maxRecDepth 100000 in
theorem rq_R05_May_12_2 (v0 : List (List PV)) (v1 : Int) : runK br Tryz.prog (callK br Tryz.prog X126 M_R05_May L_R05_May (lsT []) 40) M_R05_May (lsT [] 12 0) 40 0 (L_R05_May 12) (bodyOf Tryz.prog 12 2) (sp_R05_May_12_2.s.ts sp_R05_May_12_2.n [.l v0, .i v1]) (sp_R05_May_12_2.s.h [.l v0, .i v1]) (idc Tryz.prog 0 (L_R05_May 12) 2) =
    (rd_R05_May_12_2 [.l v0, .i v1]).go br (fun us' => some (.normal, sp_R05_May_12_2.s.ts sp_R05_May_12_2.n us', sp_R05_May_12_2.s.h us')) sp_R05_May_12_2.fin := by
  rw [← callF_eq, ← runF_eq]; kernel_rfl
theorem lo_R05_May_12_2 {R : Type} : LoopTells Tryz.prog X126 M_R05_May L_R05_May 0 (L_R05_May 12) (bodyOf Tryz.prog 12 2) (gL (R := R) sp_R05_May_12_2 rd_R05_May_12_2 br) :=
  loopTold (callK_ev (loopsOK_list rids noneIn) 40) (lsokIn (loopsOK_list rids noneIn) 12 0 2) (by kernel_rfl) sp_R05_May_12_2 rd_R05_May_12_2 rfl (by kernel_rfl) (by
    intro us v h; unfold rd_R05_May_12_2 at h; split at h
    · rename_i v0 v1; exact rq_R05_May_12_2 v0 v1
    · cases h)
noncomputable abbrev ll_R05_May_12_2 {R : Type} : List (Nat × Nat × Nat × Smy R) := (12, 0, 2, gL sp_R05_May_12_2 rd_R05_May_12_2 br) :: []
theorem lk_R05_May_12_2 {R : Type} : ∀ e ∈ ll_R05_May_12_2 (R := R), LoopTells Tryz.prog X126 M_R05_May L_R05_May e.2.1 (L_R05_May e.1) (bodyOf Tryz.prog e.1 e.2.2.1) e.2.2.2 := List.forall_mem_cons.2 ⟨lo_R05_May_12_2, noneIn⟩
def S_R05_May : FSp := ⟨[.one (.l 49)], [], [], [([.one (.b)], [])]⟩
noncomputable def m_R05_May : List U → Rt
  | [.l v0] =>
    (let r0 : Rs := (lres rd_R05_May_12_2 [U.l v0, U.i (0 : Int)])
    (.test (ok r0 0)
    (.stop 0 [.b (uB (out r0 0) 0)])
    (.test (ok r0 1)
    (.stop 0 [.b true])
    .fail)))
  | _ => .fail
set_option maxRecDepth 100000 in
theorem q_R05_May (v0 : List (List PV)) : callK br Tryz.prog X126 M_R05_May L_R05_May (lsT ll_R05_May_12_2) 60 12 (encs [.l v0] 0 S_R05_May.ap) (encH [.l v0] (ws S_R05_May.ap) S_R05_May.ah) (fun y => fixR Tryz.prog S_R05_May.plan S_R05_May.ah.length y) =
    (m_R05_May [.l v0]).go br (fun _ => none) S_R05_May.fin := by
  rw [← callF_eq]; kernel_rfl
theorem e_R05_May : EOK Tryz.prog 12 (gF S_R05_May m_R05_May) :=
  eokTold mixed named x126 (loopsOK_list rids lk_R05_May_12_2) 60 S_R05_May m_R05_May (by
    intro us v h; unfold m_R05_May at h; split at h
    · rename_i v0; exact q_R05_May v0
    · cases h) false
noncomputable abbrev X127 : Ext := extT [(12, (gF S_R05_May m_R05_May))] X126
theorem x127 : XOK Tryz.prog X127 := xok1 x126 e_R05_May

/-- levee/leveeref05.Get -/
def L_R05_Get : FuncId → Nat → Option (List Nat) := liveT [(14, 2, [0, 1, 5]), (14, 1000002, []), (14, 2000002, [4])]
def M_R05_Get : FuncId → Bool := fun _ => false
noncomputable def rd_R05_Get_14_2 : List U → Rt
  | [.l v0, .l v1, .i v2] =>
    (.test (decide (v2 < ln v0))
    (let r0 : Rs := (Rt.res (m_R05_May [U.l v0]))
    (.test (ok r0 0)
    (.test (uB (out r0 0) 0)
    (.test (inR v2 (ln v0))
    (let r1 : Rs := (Rt.res (m_R02_Compare [U.l (cL (el v0 v2) 0), U.l v1]))
    (.test (ok r1 0)
    (.test (uI (out r1 0) 0 == (0 : Int))
    (.test (inR v2 (ln v0))
    (.stop 0 [.i (cI (el v0 v2) 1)])
    .fail)
    (.next [.l v0, .l v1, .i (w64 (v2 + (1 : Int)))]))
    .fail))
    .fail)
    (.stop 1 []))
    .fail))
    (.stop 1 []))
  | _ => .fail
def sp_R05_Get_14_2 : LSp := ⟨29, ⟨[(0, .one (.l 49)), (1, .one (.l 31)), (5, .one (.i .i64))], []⟩, [(.ret, ⟨[(4, .one (.i .i64))], []⟩), (.exit 0, ⟨[], []⟩)]⟩
set_option maxRecDepth 100000 in
theorem rq_R05_Get_14_2 (v0 : List (List PV)) (v1 : List (List PV)) (v2 : Int) : runK br Tryz.prog (callK br Tryz.prog X127 M_R05_Get L_R05_Get (lsT []) 40) M_R05_Get (lsT [] 14 0) 40 0 (L_R05_Get 14) (bodyOf Tryz.prog 14 2) (sp_R05_Get_14_2.s.ts sp_R05_Get_14_2.n [.l v0, .l v1, .i v2]) (sp_R05_Get_14_2.s.h [.l v0, .l v1, .i v2]) (idc Tryz.prog 0 (L_R05_Get 14) 2) =
    (rd_R05_Get_14_2 [.l v0, .l v1, .i v2]).go br (fun us' => some (.normal, sp_R05_Get_14_2.s.ts sp_R05_Get_14_2.n us', sp_R05_Get_14_2.s.h us')) sp_R05_Get_14_2.fin := by
  rw [← callF_eq, ← runF_eq]; kernel_rfl
theorem lo_R05_Get_14_2 {R : Type} : LoopTells Tryz.prog X127 M_R05_Get L_R05_Get 0 (L_R05_Get 14) (bodyOf Tryz.prog 14 2) (gL (R := R) sp_R05_Get_14_2 rd_R05_Get_14_2 br) :=
  loopTold (callK_ev (loopsOK_list rids noneIn) 40) (lsokIn (loopsOK_list rids noneIn) 14 0 2) (by kernel_rfl) sp_R05_Get_14_2 rd_R05_Get_14_2 rfl (by kernel_rfl) (by
    intro us v h; unfold rd_R05_Get_14_2 at h; split at h
    · rename_i v0 v1 v2; exact rq_R05_Get_14_2 v0 v1 v2
    · cases h)
noncomputable abbrev ll_R05_Get_14_2 {R : Type} : List (Nat × Nat × Nat × Smy R) := (14, 0, 2, gL sp_R05_Get_14_2 rd_R05_Get_14_2 br) :: []
theorem lk_R05_Get_14_2 {R : Type} : ∀ e ∈ ll_R05_Get_14_2 (R := R), LoopTells Tryz.prog X127 M_R05_Get L_R05_Get e.2.1 (L_R05_Get e.1) (bodyOf Tryz.prog e.1 e.2.2.1) e.2.2.2 := List.forall_mem_cons.2 ⟨lo_R05_Get_14_2, noneIn⟩
def S_R05_Get : FSp := ⟨[.one (.l 49), .one (.l 31)], [], [], [([.one (.i .i64)], [])]⟩
noncomputable def m_R05_Get : List U → Rt
  | [.l v0, .l v1] =>
    (let r0 : Rs := (lres rd_R05_Get_14_2 [U.l v0, U.l v1, U.i (0 : Int)])
    (.test (ok r0 0)
    (.stop 0 [.i (uI (out r0 0) 0)])
    (.test (ok r0 1)
    (.stop 0 [.i ((0 : Int))])
    .fail)))
  | _ => .fail
set_option maxRecDepth 100000 in
theorem q_R05_Get (v0 : List (List PV)) (v1 : List (List PV)) : callK br Tryz.prog X127 M_R05_Get L_R05_Get (lsT ll_R05_Get_14_2) 60 14 (encs [.l v0, .l v1] 0 S_R05_Get.ap) (encH [.l v0, .l v1] (ws S_R05_Get.ap) S_R05_Get.ah) (fun y => fixR Tryz.prog S_R05_Get.plan S_R05_Get.ah.length y) =
    (m_R05_Get [.l v0, .l v1]).go br (fun _ => none) S_R05_Get.fin := by
  rw [← callF_eq]; kernel_rfl
theorem e_R05_Get : EOK Tryz.prog 14 (gF S_R05_Get m_R05_Get) :=
  eokTold mixed named x127 (loopsOK_list rids lk_R05_Get_14_2) 60 S_R05_Get m_R05_Get (by
    intro us v h; unfold m_R05_Get at h; split at h
    · rename_i v0 v1; exact q_R05_Get v0 v1
    · cases h) false
noncomputable abbrev X128 : Ext := extT [(14, (gF S_R05_Get m_R05_Get))] X127
theorem x128 : XOK Tryz.prog X128 := xok1 x127 e_R05_Get

/-- levee/leveeref05.Add -/
def L_R05_Add : FuncId → Nat → Option (List Nat) := liveT [(86, 4, [0, 1, 2, 7, 8, 9]), (86, 1000004, [1, 2, 7, 8]), (86, 2000004, [6])]
def M_R05_Add : FuncId → Bool := fun _ => false
noncomputable def rd_R05_Add_86_4 : List U → Rt
  | [.l v0, .l v1, .i v2, .b v3, .i v4, .l v5] =>
    (.test (decide (v4 < ln v0))
    (.test (inR v4 (ln v0))
    (let r0 : Rs := (Rt.res (m_R02_Compare [U.l (cL (el v0 v4) 0), U.l v1]))
    (.test (ok r0 0)
    (.test (decide (uI (out r0 0) 0 ≥ (0 : Int)))
    (.test (!v3)
    (.test (uI (out r0 0) 0 == (0 : Int))
    (.test (inR v4 (ln v0))
    (.test (w64 (v2 + cI (el v0 v4) 1) != (0 : Int))
    (.test (decide ((List.length v5 + 1) * 32 ≤ 140737488355328))
    (.test (uI (out r0 0) 0 != (0 : Int))
    (.test (inR v4 (ln v0))
    (.test (decide ((List.length (v5 ++ [[PV.lst 31 v1, pI (w64 (v2 + cI (el v0 v4) 1))]]) + 1) * 32 ≤ 140737488355328))
    (.next [.l v0, .l v1, .i v2, .b true, .i (w64 (v4 + (1 : Int))), .l (v5 ++ [[PV.lst 31 v1, pI (w64 (v2 + cI (el v0 v4) 1))]] ++ [[PV.lst 31 (cL (el v0 v4) 0), pI (cI (el v0 v4) 1)]])])
    .fail)
    .fail)
    (.next [.l v0, .l v1, .i v2, .b true, .i (w64 (v4 + (1 : Int))), .l (v5 ++ [[PV.lst 31 v1, pI (w64 (v2 + cI (el v0 v4) 1))]])]))
    .fail)
    (.test (uI (out r0 0) 0 != (0 : Int))
    (.test (inR v4 (ln v0))
    (.test (decide ((List.length v5 + 1) * 32 ≤ 140737488355328))
    (.next [.l v0, .l v1, .i v2, .b true, .i (w64 (v4 + (1 : Int))), .l (v5 ++ [[PV.lst 31 (cL (el v0 v4) 0), pI (cI (el v0 v4) 1)]])])
    .fail)
    .fail)
    (.next [.l v0, .l v1, .i v2, .b true, .i (w64 (v4 + (1 : Int))), .l v5])))
    .fail)
    (.test (v2 != (0 : Int))
    (.test (decide ((List.length v5 + 1) * 32 ≤ 140737488355328))
    (.test (uI (out r0 0) 0 != (0 : Int))
    (.test (inR v4 (ln v0))
    (.test (decide ((List.length (v5 ++ [[PV.lst 31 v1, pI v2]]) + 1) * 32 ≤ 140737488355328))
    (.next [.l v0, .l v1, .i v2, .b true, .i (w64 (v4 + (1 : Int))), .l (v5 ++ [[PV.lst 31 v1, pI v2]] ++ [[PV.lst 31 (cL (el v0 v4) 0), pI (cI (el v0 v4) 1)]])])
    .fail)
    .fail)
    (.next [.l v0, .l v1, .i v2, .b true, .i (w64 (v4 + (1 : Int))), .l (v5 ++ [[PV.lst 31 v1, pI v2]])]))
    .fail)
    (.test (uI (out r0 0) 0 != (0 : Int))
    (.test (inR v4 (ln v0))
    (.test (decide ((List.length v5 + 1) * 32 ≤ 140737488355328))
    (.next [.l v0, .l v1, .i v2, .b true, .i (w64 (v4 + (1 : Int))), .l (v5 ++ [[PV.lst 31 (cL (el v0 v4) 0), pI (cI (el v0 v4) 1)]])])
    .fail)
    .fail)
    (.next [.l v0, .l v1, .i v2, .b true, .i (w64 (v4 + (1 : Int))), .l v5]))))
    (.test (uI (out r0 0) 0 != (0 : Int))
    (.test (inR v4 (ln v0))
    (.test (decide ((List.length v5 + 1) * 32 ≤ 140737488355328))
    (.next [.l v0, .l v1, .i v2, .b v3, .i (w64 (v4 + (1 : Int))), .l (v5 ++ [[PV.lst 31 (cL (el v0 v4) 0), pI (cI (el v0 v4) 1)]])])
    .fail)
    .fail)
    (.next [.l v0, .l v1, .i v2, .b v3, .i (w64 (v4 + (1 : Int))), .l v5])))
    (.test (uI (out r0 0) 0 != (0 : Int))
    (.test (inR v4 (ln v0))
    (.test (decide ((List.length v5 + 1) * 32 ≤ 140737488355328))
    (.next [.l v0, .l v1, .i v2, .b v3, .i (w64 (v4 + (1 : Int))), .l (v5 ++ [[PV.lst 31 (cL (el v0 v4) 0), pI (cI (el v0 v4) 1)]])])
    .fail)
    .fail)
    (.next [.l v0, .l v1, .i v2, .b v3, .i (w64 (v4 + (1 : Int))), .l v5])))
    .fail))
    .fail)
    (.stop 0 [.l v1, .i v2, .b v3, .l v5]))
  | _ => .fail
def sp_R05_Add_86_4 : LSp := ⟨72, ⟨[(0, .one (.l 49)), (1, .one (.l 31)), (2, .one (.i .i64)), (7, .one (.all 0)), (8, .one (.b)), (9, .one (.i .i64))], [.arr 49 true]⟩, [(.exit 0, ⟨[(1, .one (.l 31)), (2, .one (.i .i64)), (7, .one (.all 0)), (8, .one (.b))], [.arr 49 true]⟩)]⟩
set_option maxRecDepth 100000 in
theorem rq_R05_Add_86_4 (v0 : List (List PV)) (v1 : List (List PV)) (v2 : Int) (v3 : Bool) (v4 : Int) (v5 : List (List PV)) : runK br Tryz.prog (callK br Tryz.prog X128 M_R05_Add L_R05_Add (lsT []) 40) M_R05_Add (lsT [] 86 0) 40 0 (L_R05_Add 86) (bodyOf Tryz.prog 86 4) (sp_R05_Add_86_4.s.ts sp_R05_Add_86_4.n [.l v0, .l v1, .i v2, .b v3, .i v4, .l v5]) (sp_R05_Add_86_4.s.h [.l v0, .l v1, .i v2, .b v3, .i v4, .l v5]) (idc Tryz.prog 0 (L_R05_Add 86) 4) =
    (rd_R05_Add_86_4 [.l v0, .l v1, .i v2, .b v3, .i v4, .l v5]).go br (fun us' => some (.normal, sp_R05_Add_86_4.s.ts sp_R05_Add_86_4.n us', sp_R05_Add_86_4.s.h us')) sp_R05_Add_86_4.fin := by
  rw [← callF_eq, ← runF_eq]; kernel_rfl
theorem lo_R05_Add_86_4 {R : Type} : LoopTells Tryz.prog X128 M_R05_Add L_R05_Add 0 (L_R05_Add 86) (bodyOf Tryz.prog 86 4) (gL (R := R) sp_R05_Add_86_4 rd_R05_Add_86_4 br) :=
  loopTold (callK_ev (loopsOK_list rids noneIn) 40) (lsokIn (loopsOK_list rids noneIn) 86 0 4) (by kernel_rfl) sp_R05_Add_86_4 rd_R05_Add_86_4 rfl (by kernel_rfl) (by
    intro us v h; unfold rd_R05_Add_86_4 at h; split at h
    · rename_i v0 v1 v2 v3 v4 v5; exact rq_R05_Add_86_4 v0 v1 v2 v3 v4 v5
    · cases h)
noncomputable abbrev ll_R05_Add_86_4 {R : Type} : List (Nat × Nat × Nat × Smy R) := (86, 0, 4, gL sp_R05_Add_86_4 rd_R05_Add_86_4 br) :: []
theorem lk_R05_Add_86_4 {R : Type} : ∀ e ∈ ll_R05_Add_86_4 (R := R), LoopTells Tryz.prog X128 M_R05_Add L_R05_Add e.2.1 (L_R05_Add e.1) (bodyOf Tryz.prog e.1 e.2.2.1) e.2.2.2 := List.forall_mem_cons.2 ⟨lo_R05_Add_86_4, noneIn⟩
def S_R05_Add : FSp := ⟨[.one (.l 49), .one (.l 31), .one (.i .i64)], [], [], [([.one (.all 0)], [.arr 49 true])]⟩
noncomputable def m_R05_Add : List U → Rt
  | [.l v0, .l v1, .i v2] =>
    (let r0 : Rs := (lres rd_R05_Add_86_4 [U.l v0, U.l v1, U.i v2, U.b false, U.i (0 : Int), U.l []])
    (.test (ok r0 0)
    (.test (!uB (out r0 0) 2)
    (.test (uI (out r0 0) 1 != (0 : Int))
    (.test (decide ((List.length (uL (out r0 0) 3) + 1) * 32 ≤ 140737488355328))
    (.stop 0 [.l (uL (out r0 0) 3 ++ [[PV.lst 31 (uL (out r0 0) 0), pI (uI (out r0 0) 1)]])])
    .fail)
    (.stop 0 [.l (uL (out r0 0) 3)]))
    (.stop 0 [.l (uL (out r0 0) 3)]))
    .fail))
  | _ => .fail
set_option maxRecDepth 100000 in
theorem q_R05_Add (v0 : List (List PV)) (v1 : List (List PV)) (v2 : Int) : callK br Tryz.prog X128 M_R05_Add L_R05_Add (lsT ll_R05_Add_86_4) 60 86 (encs [.l v0, .l v1, .i v2] 0 S_R05_Add.ap) (encH [.l v0, .l v1, .i v2] (ws S_R05_Add.ap) S_R05_Add.ah) (fun y => fixR Tryz.prog S_R05_Add.plan S_R05_Add.ah.length y) =
    (m_R05_Add [.l v0, .l v1, .i v2]).go br (fun _ => none) S_R05_Add.fin := by
  rw [← callF_eq]; kernel_rfl
theorem e_R05_Add : EOK Tryz.prog 86 (gF S_R05_Add m_R05_Add) :=
  eokTold mixed named x128 (loopsOK_list rids lk_R05_Add_86_4) 60 S_R05_Add m_R05_Add (by
    intro us v h; unfold m_R05_Add at h; split at h
    · rename_i v0 v1 v2; exact q_R05_Add v0 v1 v2
    · cases h) false
noncomputable abbrev X129 : Ext := extT [(86, (gF S_R05_Add m_R05_Add))] X128
theorem x129 : XOK Tryz.prog X129 := xok1 x128 e_R05_Add

/-- levee/leveeref05.Both -/
def L_R05_Both : FuncId → Nat → Option (List Nat) := liveT [(51, 2, [100000000, 1, 5]), (51, 1000002, [0]), (51, 2000002, [4])]
def M_R05_Both : FuncId → Bool := fun _ => false
noncomputable def rd_R05_Both_51_2 : List U → Rt
  | [.l v0, .l v1, .i v2] =>
    (.test (decide (v2 < ln v1))
    (.test (inR v2 (ln v1))
    (.test (inR v2 (ln v1))
    (let r0 : Rs := (Rt.res (m_R05_Add [U.l v0, U.l (cL (el v1 v2) 0), U.i (cI (el v1 v2) 1)]))
    (.test (ok r0 0)
    (.next [.l (uL (out r0 0) 0), .l v1, .i (w64 (v2 + (1 : Int)))])
    .fail))
    .fail)
    .fail)
    (.stop 0 [.l v0]))
  | _ => .fail
def sp_R05_Both_51_2 : LSp := ⟨25, ⟨[(0, .one (.l 49)), (1, .one (.l 49)), (5, .one (.i .i64))], []⟩, [(.exit 0, ⟨[(0, .one (.l 49))], []⟩)]⟩
set_option maxRecDepth 100000 in
theorem rq_R05_Both_51_2 (v0 : List (List PV)) (v1 : List (List PV)) (v2 : Int) : runK br Tryz.prog (callK br Tryz.prog X129 M_R05_Both L_R05_Both (lsT []) 40) M_R05_Both (lsT [] 51 0) 40 0 (L_R05_Both 51) (bodyOf Tryz.prog 51 2) (sp_R05_Both_51_2.s.ts sp_R05_Both_51_2.n [.l v0, .l v1, .i v2]) (sp_R05_Both_51_2.s.h [.l v0, .l v1, .i v2]) (idc Tryz.prog 0 (L_R05_Both 51) 2) =
    (rd_R05_Both_51_2 [.l v0, .l v1, .i v2]).go br (fun us' => some (.normal, sp_R05_Both_51_2.s.ts sp_R05_Both_51_2.n us', sp_R05_Both_51_2.s.h us')) sp_R05_Both_51_2.fin := by
  rw [← callF_eq, ← runF_eq]; kernel_rfl
theorem lo_R05_Both_51_2 {R : Type} : LoopTells Tryz.prog X129 M_R05_Both L_R05_Both 0 (L_R05_Both 51) (bodyOf Tryz.prog 51 2) (gL (R := R) sp_R05_Both_51_2 rd_R05_Both_51_2 br) :=
  loopTold (callK_ev (loopsOK_list rids noneIn) 40) (lsokIn (loopsOK_list rids noneIn) 51 0 2) (by kernel_rfl) sp_R05_Both_51_2 rd_R05_Both_51_2 rfl (by kernel_rfl) (by
    intro us v h; unfold rd_R05_Both_51_2 at h; split at h
    · rename_i v0 v1 v2; exact rq_R05_Both_51_2 v0 v1 v2
    · cases h)
noncomputable abbrev ll_R05_Both_51_2 {R : Type} : List (Nat × Nat × Nat × Smy R) := (51, 0, 2, gL sp_R05_Both_51_2 rd_R05_Both_51_2 br) :: []
theorem lk_R05_Both_51_2 {R : Type} : ∀ e ∈ ll_R05_Both_51_2 (R := R), LoopTells Tryz.prog X129 M_R05_Both L_R05_Both e.2.1 (L_R05_Both e.1) (bodyOf Tryz.prog e.1 e.2.2.1) e.2.2.2 := List.forall_mem_cons.2 ⟨lo_R05_Both_51_2, noneIn⟩
def S_R05_Both : FSp := ⟨[.one (.l 49), .one (.l 49)], [], [], [([.one (.l 49)], [])]⟩
noncomputable def m_R05_Both : List U → Rt
  | [.l v0, .l v1] =>
    (let r0 : Rs := (lres rd_R05_Both_51_2 [U.l v0, U.l v1, U.i (0 : Int)])
    (.test (ok r0 0)
    (.stop 0 [.l (uL (out r0 0) 0)])
    .fail))
  | _ => .fail
set_option maxRecDepth 100000 in
theorem q_R05_Both (v0 : List (List PV)) (v1 : List (List PV)) : callK br Tryz.prog X129 M_R05_Both L_R05_Both (lsT ll_R05_Both_51_2) 60 51 (encs [.l v0, .l v1] 0 S_R05_Both.ap) (encH [.l v0, .l v1] (ws S_R05_Both.ap) S_R05_Both.ah) (fun y => fixR Tryz.prog S_R05_Both.plan S_R05_Both.ah.length y) =
    (m_R05_Both [.l v0, .l v1]).go br (fun _ => none) S_R05_Both.fin := by
  rw [← callF_eq]; kernel_rfl
theorem e_R05_Both : EOK Tryz.prog 51 (gF S_R05_Both m_R05_Both) :=
  eokTold mixed named x129 (loopsOK_list rids lk_R05_Both_51_2) 60 S_R05_Both m_R05_Both (by
    intro us v h; unfold m_R05_Both at h; split at h
    · rename_i v0 v1; exact q_R05_Both v0 v1
    · cases h) false
noncomputable abbrev X130 : Ext := extT [(51, (gF S_R05_Both m_R05_Both))] X129
theorem x130 : XOK Tryz.prog X130 := xok1 x129 e_R05_Both

/-- levee/leveeref05.Plus -/
def L_R05_Plus : FuncId → Nat → Option (List Nat) := liveT [(17, 3, [0, 100000003, 4]), (17, 1000003, [3]), (17, 2000003, [2])]
def M_R05_Plus : FuncId → Bool := fun _ => false
noncomputable def rd_R05_Plus_17_3 : List U → Rt
  | [.l v0, .l v1, .i v2] =>
    (.test (decide (v2 < ln v0))
    (.test (inR v2 (ln v0))
    (let r0 : Rs := (Rt.res (m_R05_May [U.l (cL (el v0 v2) 0)]))
    (.test (ok r0 0)
    (.test (!uB (out r0 0) 0)
    (.stop 0 [])
    (.test (inR v2 (ln v0))
    (let r1 : Rs := (Rt.res (m_R05_Both [U.l v1, U.l (cL (el v0 v2) 0)]))
    (.test (ok r1 0)
    (.next [.l v0, .l (uL (out r1 0) 0), .i (w64 (v2 + (1 : Int)))])
    .fail))
    .fail))
    .fail))
    .fail)
    (.stop 1 [.l v1]))
  | _ => .fail
def sp_R05_Plus_17_3 : LSp := ⟨28, ⟨[(0, .one (.l 39)), (3, .one (.l 49)), (4, .one (.i .i64))], []⟩, [(.ret, ⟨[(2, .one (.nils))], []⟩), (.exit 0, ⟨[(3, .one (.l 49))], []⟩)]⟩
set_option maxRecDepth 100000 in
theorem rq_R05_Plus_17_3 (v0 : List (List PV)) (v1 : List (List PV)) (v2 : Int) : runK br Tryz.prog (callK br Tryz.prog X130 M_R05_Plus L_R05_Plus (lsT []) 40) M_R05_Plus (lsT [] 17 0) 40 0 (L_R05_Plus 17) (bodyOf Tryz.prog 17 3) (sp_R05_Plus_17_3.s.ts sp_R05_Plus_17_3.n [.l v0, .l v1, .i v2]) (sp_R05_Plus_17_3.s.h [.l v0, .l v1, .i v2]) (idc Tryz.prog 0 (L_R05_Plus 17) 3) =
    (rd_R05_Plus_17_3 [.l v0, .l v1, .i v2]).go br (fun us' => some (.normal, sp_R05_Plus_17_3.s.ts sp_R05_Plus_17_3.n us', sp_R05_Plus_17_3.s.h us')) sp_R05_Plus_17_3.fin := by
  rw [← callF_eq, ← runF_eq]; kernel_rfl
theorem lo_R05_Plus_17_3 {R : Type} : LoopTells Tryz.prog X130 M_R05_Plus L_R05_Plus 0 (L_R05_Plus 17) (bodyOf Tryz.prog 17 3) (gL (R := R) sp_R05_Plus_17_3 rd_R05_Plus_17_3 br) :=
  loopTold (callK_ev (loopsOK_list rids noneIn) 40) (lsokIn (loopsOK_list rids noneIn) 17 0 3) (by kernel_rfl) sp_R05_Plus_17_3 rd_R05_Plus_17_3 rfl (by kernel_rfl) (by
    intro us v h; unfold rd_R05_Plus_17_3 at h; split at h
    · rename_i v0 v1 v2; exact rq_R05_Plus_17_3 v0 v1 v2
    · cases h)
noncomputable abbrev ll_R05_Plus_17_3 {R : Type} : List (Nat × Nat × Nat × Smy R) := (17, 0, 3, gL sp_R05_Plus_17_3 rd_R05_Plus_17_3 br) :: []
theorem lk_R05_Plus_17_3 {R : Type} : ∀ e ∈ ll_R05_Plus_17_3 (R := R), LoopTells Tryz.prog X130 M_R05_Plus L_R05_Plus e.2.1 (L_R05_Plus e.1) (bodyOf Tryz.prog e.1 e.2.2.1) e.2.2.2 := List.forall_mem_cons.2 ⟨lo_R05_Plus_17_3, noneIn⟩
def S_R05_Plus : FSp := ⟨[.one (.l 39)], [], [100000000], [([.one (.l 49)], [])]⟩
noncomputable def m_R05_Plus : List U → Rt
  | [.l v0] =>
    (let r0 : Rs := (lres rd_R05_Plus_17_3 [U.l v0, U.l [], U.i (0 : Int)])
    (.test (ok r0 0)
    (.stop 0 [.l []])
    (.test (ok r0 1)
    (let r1 : Rs := (Rt.res (m_R05_May [U.l (uL (out r0 1) 0)]))
    (.test (ok r1 0)
    (.test (!uB (out r1 0) 0)
    (.stop 0 [.l []])
    (.stop 0 [.l (uL (out r0 1) 0)]))
    .fail))
    .fail)))
  | _ => .fail
set_option maxRecDepth 100000 in
theorem q_R05_Plus (v0 : List (List PV)) : callK br Tryz.prog X130 M_R05_Plus L_R05_Plus (lsT ll_R05_Plus_17_3) 60 17 (encs [.l v0] 0 S_R05_Plus.ap) (encH [.l v0] (ws S_R05_Plus.ap) S_R05_Plus.ah) (fun y => fixR Tryz.prog S_R05_Plus.plan S_R05_Plus.ah.length y) =
    (m_R05_Plus [.l v0]).go br (fun _ => none) S_R05_Plus.fin := by
  rw [← callF_eq]; kernel_rfl
theorem e_R05_Plus : EOK Tryz.prog 17 (gF S_R05_Plus m_R05_Plus) :=
  eokTold mixed named x130 (loopsOK_list rids lk_R05_Plus_17_3) 60 S_R05_Plus m_R05_Plus (by
    intro us v h; unfold m_R05_Plus at h; split at h
    · rename_i v0; exact q_R05_Plus v0
    · cases h) false
noncomputable abbrev X131 : Ext := extT [(17, (gF S_R05_Plus m_R05_Plus))] X130
theorem x131 : XOK Tryz.prog X131 := xok1 x130 e_R05_Plus

/-- levee/leveeref05.Same -/
def L_R05_Same : FuncId → Nat → Option (List Nat) := liveT [(15, 4, [0, 1, 5]), (15, 1000004, []), (15, 2000004, [4])]
def M_R05_Same : FuncId → Bool := fun _ => false
noncomputable def rd_R05_Same_15_4 : List U → Rt
  | [.l v0, .l v1, .i v2] =>
    (.test (decide (v2 < ln v0))
    (.test (inR v2 (ln v0))
    (.test (inR v2 (ln v1))
    (.test (cI (el v0 v2) 1 != cI (el v1 v2) 1)
    (.stop 0 [.b false])
    (.test (inR v2 (ln v0))
    (.test (inR v2 (ln v1))
    (let r0 : Rs := (Rt.res (m_R02_Compare [U.l (cL (el v0 v2) 0), U.l (cL (el v1 v2) 0)]))
    (.test (ok r0 0)
    (.test (uI (out r0 0) 0 != (0 : Int))
    (.stop 0 [.b false])
    (.next [.l v0, .l v1, .i (w64 (v2 + (1 : Int)))]))
    .fail))
    .fail)
    .fail))
    .fail)
    .fail)
    (.stop 1 []))
  | _ => .fail
def sp_R05_Same_15_4 : LSp := ⟨42, ⟨[(0, .one (.l 49)), (1, .one (.l 49)), (5, .one (.i .i64))], []⟩, [(.ret, ⟨[(4, .one (.b))], []⟩), (.exit 0, ⟨[], []⟩)]⟩
set_option maxRecDepth 100000 in
theorem rq_R05_Same_15_4 (v0 : List (List PV)) (v1 : List (List PV)) (v2 : Int) : runK br Tryz.prog (callK br Tryz.prog X131 M_R05_Same L_R05_Same (lsT []) 40) M_R05_Same (lsT [] 15 0) 40 0 (L_R05_Same 15) (bodyOf Tryz.prog 15 4) (sp_R05_Same_15_4.s.ts sp_R05_Same_15_4.n [.l v0, .l v1, .i v2]) (sp_R05_Same_15_4.s.h [.l v0, .l v1, .i v2]) (idc Tryz.prog 0 (L_R05_Same 15) 4) =
    (rd_R05_Same_15_4 [.l v0, .l v1, .i v2]).go br (fun us' => some (.normal, sp_R05_Same_15_4.s.ts sp_R05_Same_15_4.n us', sp_R05_Same_15_4.s.h us')) sp_R05_Same_15_4.fin := by
  rw [← callF_eq, ← runF_eq]; kernel_rfl
theorem lo_R05_Same_15_4 {R : Type} : LoopTells Tryz.prog X131 M_R05_Same L_R05_Same 0 (L_R05_Same 15) (bodyOf Tryz.prog 15 4) (gL (R := R) sp_R05_Same_15_4 rd_R05_Same_15_4 br) :=
  loopTold (callK_ev (loopsOK_list rids noneIn) 40) (lsokIn (loopsOK_list rids noneIn) 15 0 4) (by kernel_rfl) sp_R05_Same_15_4 rd_R05_Same_15_4 rfl (by kernel_rfl) (by
    intro us v h; unfold rd_R05_Same_15_4 at h; split at h
    · rename_i v0 v1 v2; exact rq_R05_Same_15_4 v0 v1 v2
    · cases h)
noncomputable abbrev ll_R05_Same_15_4 {R : Type} : List (Nat × Nat × Nat × Smy R) := (15, 0, 4, gL sp_R05_Same_15_4 rd_R05_Same_15_4 br) :: []
theorem lk_R05_Same_15_4 {R : Type} : ∀ e ∈ ll_R05_Same_15_4 (R := R), LoopTells Tryz.prog X131 M_R05_Same L_R05_Same e.2.1 (L_R05_Same e.1) (bodyOf Tryz.prog e.1 e.2.2.1) e.2.2.2 := List.forall_mem_cons.2 ⟨lo_R05_Same_15_4, noneIn⟩
def S_R05_Same : FSp := ⟨[.one (.l 49), .one (.l 49)], [], [], [([.one (.b)], [])]⟩
noncomputable def m_R05_Same : List U → Rt
  | [.l v0, .l v1] =>
    (.test (ln v0 != ln v1)
    (.stop 0 [.b false])
    (let r0 : Rs := (lres rd_R05_Same_15_4 [U.l v0, U.l v1, U.i (0 : Int)])
    (.test (ok r0 0)
    (.stop 0 [.b (uB (out r0 0) 0)])
    (.test (ok r0 1)
    (.stop 0 [.b true])
    .fail))))
  | _ => .fail
set_option maxRecDepth 100000 in
theorem q_R05_Same (v0 : List (List PV)) (v1 : List (List PV)) : callK br Tryz.prog X131 M_R05_Same L_R05_Same (lsT ll_R05_Same_15_4) 60 15 (encs [.l v0, .l v1] 0 S_R05_Same.ap) (encH [.l v0, .l v1] (ws S_R05_Same.ap) S_R05_Same.ah) (fun y => fixR Tryz.prog S_R05_Same.plan S_R05_Same.ah.length y) =
    (m_R05_Same [.l v0, .l v1]).go br (fun _ => none) S_R05_Same.fin := by
  rw [← callF_eq]; kernel_rfl
theorem e_R05_Same : EOK Tryz.prog 15 (gF S_R05_Same m_R05_Same) :=
  eokTold mixed named x131 (loopsOK_list rids lk_R05_Same_15_4) 60 S_R05_Same m_R05_Same (by
    intro us v h; unfold m_R05_Same at h; split at h
    · rename_i v0 v1; exact q_R05_Same v0 v1
    · cases h) false
noncomputable abbrev X132 : Ext := extT [(15, (gF S_R05_Same m_R05_Same))] X131
theorem x132 : XOK Tryz.prog X132 := xok1 x131 e_R05_Same

/-- levee/leveeref05.Neg -/
def L_R05_Neg : FuncId → Nat → Option (List Nat) := liveT [(19, 3, [0, 3, 4]), (19, 1000003, [3]), (19, 2000003, [2])]
def M_R05_Neg : FuncId → Bool := fun _ => false
noncomputable def rd_R05_Neg_19_3 : List U → Rt
  | [.l v0, .i v1, .l v2] =>
    (.test (decide (v1 < ln v0))
    (let r0 : Rs := (Rt.res (m_R05_May [U.l v0]))
    (.test (ok r0 0)
    (.test (uB (out r0 0) 0)
    (.test (inR v1 (ln v0))
    (.test (inR v1 (ln v0))
    (.test (decide ((List.length v2 + 1) * 32 ≤ 140737488355328))
    (.next [.l v0, .i (w64 (v1 + (1 : Int))), .l (v2 ++ [[PV.lst 31 (cL (el v0 v1) 0), pI (w64 ((0 : Int) - cI (el v0 v1) 1))]])])
    .fail)
    .fail)
    .fail)
    (.stop 0 [.l v2]))
    .fail))
    (.stop 0 [.l v2]))
  | _ => .fail
def sp_R05_Neg_19_3 : LSp := ⟨32, ⟨[(0, .one (.l 49)), (3, .one (.all 0)), (4, .one (.i .i64))], [.arr 49 true]⟩, [(.exit 0, ⟨[(3, .one (.all 0))], [.arr 49 true]⟩)]⟩
set_option maxRecDepth 100000 in
theorem rq_R05_Neg_19_3 (v0 : List (List PV)) (v1 : Int) (v2 : List (List PV)) : runK br Tryz.prog (callK br Tryz.prog X132 M_R05_Neg L_R05_Neg (lsT []) 40) M_R05_Neg (lsT [] 19 0) 40 0 (L_R05_Neg 19) (bodyOf Tryz.prog 19 3) (sp_R05_Neg_19_3.s.ts sp_R05_Neg_19_3.n [.l v0, .i v1, .l v2]) (sp_R05_Neg_19_3.s.h [.l v0, .i v1, .l v2]) (idc Tryz.prog 0 (L_R05_Neg 19) 3) =
    (rd_R05_Neg_19_3 [.l v0, .i v1, .l v2]).go br (fun us' => some (.normal, sp_R05_Neg_19_3.s.ts sp_R05_Neg_19_3.n us', sp_R05_Neg_19_3.s.h us')) sp_R05_Neg_19_3.fin := by
  rw [← callF_eq, ← runF_eq]; kernel_rfl
theorem lo_R05_Neg_19_3 {R : Type} : LoopTells Tryz.prog X132 M_R05_Neg L_R05_Neg 0 (L_R05_Neg 19) (bodyOf Tryz.prog 19 3) (gL (R := R) sp_R05_Neg_19_3 rd_R05_Neg_19_3 br) :=
  loopTold (callK_ev (loopsOK_list rids noneIn) 40) (lsokIn (loopsOK_list rids noneIn) 19 0 3) (by kernel_rfl) sp_R05_Neg_19_3 rd_R05_Neg_19_3 rfl (by kernel_rfl) (by
    intro us v h; unfold rd_R05_Neg_19_3 at h; split at h
    · rename_i v0 v1 v2; exact rq_R05_Neg_19_3 v0 v1 v2
    · cases h)
noncomputable abbrev ll_R05_Neg_19_3 {R : Type} : List (Nat × Nat × Nat × Smy R) := (19, 0, 3, gL sp_R05_Neg_19_3 rd_R05_Neg_19_3 br) :: []
theorem lk_R05_Neg_19_3 {R : Type} : ∀ e ∈ ll_R05_Neg_19_3 (R := R), LoopTells Tryz.prog X132 M_R05_Neg L_R05_Neg e.2.1 (L_R05_Neg e.1) (bodyOf Tryz.prog e.1 e.2.2.1) e.2.2.2 := List.forall_mem_cons.2 ⟨lo_R05_Neg_19_3, noneIn⟩
def S_R05_Neg : FSp := ⟨[.one (.l 49)], [], [], [([.one (.all 0)], [.arr 49 true])]⟩
noncomputable def m_R05_Neg : List U → Rt
  | [.l v0] =>
    (let r0 : Rs := (lres rd_R05_Neg_19_3 [U.l v0, U.i (0 : Int), U.l []])
    (.test (ok r0 0)
    (.stop 0 [.l (uL (out r0 0) 0)])
    .fail))
  | _ => .fail
set_option maxRecDepth 100000 in
theorem q_R05_Neg (v0 : List (List PV)) : callK br Tryz.prog X132 M_R05_Neg L_R05_Neg (lsT ll_R05_Neg_19_3) 60 19 (encs [.l v0] 0 S_R05_Neg.ap) (encH [.l v0] (ws S_R05_Neg.ap) S_R05_Neg.ah) (fun y => fixR Tryz.prog S_R05_Neg.plan S_R05_Neg.ah.length y) =
    (m_R05_Neg [.l v0]).go br (fun _ => none) S_R05_Neg.fin := by
  rw [← callF_eq]; kernel_rfl
theorem e_R05_Neg : EOK Tryz.prog 19 (gF S_R05_Neg m_R05_Neg) :=
  eokTold mixed named x132 (loopsOK_list rids lk_R05_Neg_19_3) 60 S_R05_Neg m_R05_Neg (by
    intro us v h; unfold m_R05_Neg at h; split at h
    · rename_i v0; exact q_R05_Neg v0
    · cases h) false
noncomputable abbrev X133 : Ext := extT [(19, (gF S_R05_Neg m_R05_Neg))] X132
theorem x133 : XOK Tryz.prog X133 := xok1 x132 e_R05_Neg

/-- levee/leveeref01.Digits -/
def L_R01_Digits : FuncId → Nat → Option (List Nat) := liveT [(92, 2, [0, 3]), (92, 1000002, [0, 3]), (92, 2000002, [2])]
def M_R01_Digits : FuncId → Bool := fun _ => false
noncomputable def rd_R01_Digits_92_2 : List U → Rt
  | [.i v0, .s v1] =>
    (.test (decide (v0 > (9 : Int)))
    (.test (decide ((0 : Int) ≤ Int.tmod v0 (10 : Int) ∧ Int.tmod v0 (10 : Int) ≤ IntKind.wrap IntKind.u64 (Int.tmod v0 (10 : Int) + (1 : Int)) ∧ IntKind.wrap IntKind.u64 (Int.tmod v0 (10 : Int) + (1 : Int)) ≤ (10 : Int)))
    (.test (decide (ByteArray.size (ByteArray.extract { data := #[(48 : UInt8), (49 : UInt8), (50 : UInt8), (51 : UInt8), (52 : UInt8), (53 : UInt8), (54 : UInt8), (55 : UInt8), (56 : UInt8), (57 : UInt8)] } (Int.toNat (Int.tmod v0 (10 : Int))) (Int.toNat (IntKind.wrap IntKind.u64 (Int.tmod v0 (10 : Int) + (1 : Int))))) + ByteArray.size v1 ≤ 9223372036854775807))
    (.next [.i (IntKind.wrap IntKind.u64 (Int.tdiv v0 (10 : Int))), .s (ByteArray.extract { data := #[(48 : UInt8), (49 : UInt8), (50 : UInt8), (51 : UInt8), (52 : UInt8), (53 : UInt8), (54 : UInt8), (55 : UInt8), (56 : UInt8), (57 : UInt8)] } (Int.toNat (Int.tmod v0 (10 : Int))) (Int.toNat (IntKind.wrap IntKind.u64 (Int.tmod v0 (10 : Int) + (1 : Int)))) ++ v1)])
    .fail)
    .fail)
    (.stop 0 [.i v0, .s v1]))
  | _ => .fail
def sp_R01_Digits_92_2 : LSp := ⟨22, ⟨[(0, .one (.i .u64)), (3, .one (.s))], []⟩, [(.exit 0, ⟨[(0, .one (.i .u64)), (3, .one (.s))], []⟩)]⟩
set_option maxRecDepth 100000 in
theorem rq_R01_Digits_92_2 (v0 : Int) (v1 : ByteArray) : runK br Tryz.prog (callK br Tryz.prog X133 M_R01_Digits L_R01_Digits (lsT []) 40) M_R01_Digits (lsT [] 92 0) 40 0 (L_R01_Digits 92) (bodyOf Tryz.prog 92 2) (sp_R01_Digits_92_2.s.ts sp_R01_Digits_92_2.n [.i v0, .s v1]) (sp_R01_Digits_92_2.s.h [.i v0, .s v1]) (idc Tryz.prog 0 (L_R01_Digits 92) 2) =
    (rd_R01_Digits_92_2 [.i v0, .s v1]).go br (fun us' => some (.normal, sp_R01_Digits_92_2.s.ts sp_R01_Digits_92_2.n us', sp_R01_Digits_92_2.s.h us')) sp_R01_Digits_92_2.fin := by
  rw [← callF_eq, ← runF_eq]; kernel_rfl
theorem lo_R01_Digits_92_2 {R : Type} : LoopTells Tryz.prog X133 M_R01_Digits L_R01_Digits 0 (L_R01_Digits 92) (bodyOf Tryz.prog 92 2) (gL (R := R) sp_R01_Digits_92_2 rd_R01_Digits_92_2 br) :=
  loopTold (callK_ev (loopsOK_list rids noneIn) 40) (lsokIn (loopsOK_list rids noneIn) 92 0 2) (by kernel_rfl) sp_R01_Digits_92_2 rd_R01_Digits_92_2 rfl (by kernel_rfl) (by
    intro us v h; unfold rd_R01_Digits_92_2 at h; split at h
    · rename_i v0 v1; exact rq_R01_Digits_92_2 v0 v1
    · cases h)
noncomputable abbrev ll_R01_Digits_92_2 {R : Type} : List (Nat × Nat × Nat × Smy R) := (92, 0, 2, gL sp_R01_Digits_92_2 rd_R01_Digits_92_2 br) :: []
theorem lk_R01_Digits_92_2 {R : Type} : ∀ e ∈ ll_R01_Digits_92_2 (R := R), LoopTells Tryz.prog X133 M_R01_Digits L_R01_Digits e.2.1 (L_R01_Digits e.1) (bodyOf Tryz.prog e.1 e.2.2.1) e.2.2.2 := List.forall_mem_cons.2 ⟨lo_R01_Digits_92_2, noneIn⟩
def S_R01_Digits : FSp := ⟨[.one (.i .u64)], [], [], [([.one (.s)], [])]⟩
noncomputable def m_R01_Digits : List U → Rt
  | [.i v0] =>
    (let r0 : Rs := (lres rd_R01_Digits_92_2 [U.i v0, U.s { data := #[] }])
    (.test (ok r0 0)
    (.test (decide ((0 : Int) ≤ uI (out r0 0) 0 ∧ uI (out r0 0) 0 ≤ IntKind.wrap IntKind.u64 (uI (out r0 0) 0 + (1 : Int)) ∧ IntKind.wrap IntKind.u64 (uI (out r0 0) 0 + (1 : Int)) ≤ (10 : Int)))
    (.test (decide (ByteArray.size (ByteArray.extract { data := #[(48 : UInt8), (49 : UInt8), (50 : UInt8), (51 : UInt8), (52 : UInt8), (53 : UInt8), (54 : UInt8), (55 : UInt8), (56 : UInt8), (57 : UInt8)] } (Int.toNat (uI (out r0 0) 0)) (Int.toNat (IntKind.wrap IntKind.u64 (uI (out r0 0) 0 + (1 : Int))))) + ByteArray.size (uS (out r0 0) 1) ≤ 9223372036854775807))
    (.stop 0 [.s (ByteArray.extract { data := #[(48 : UInt8), (49 : UInt8), (50 : UInt8), (51 : UInt8), (52 : UInt8), (53 : UInt8), (54 : UInt8), (55 : UInt8), (56 : UInt8), (57 : UInt8)] } (Int.toNat (uI (out r0 0) 0)) (Int.toNat (IntKind.wrap IntKind.u64 (uI (out r0 0) 0 + (1 : Int)))) ++ uS (out r0 0) 1)])
    .fail)
    .fail)
    .fail))
  | _ => .fail
set_option maxRecDepth 100000 in
theorem q_R01_Digits (v0 : Int) : callK br Tryz.prog X133 M_R01_Digits L_R01_Digits (lsT ll_R01_Digits_92_2) 60 92 (encs [.i v0] 0 S_R01_Digits.ap) (encH [.i v0] (ws S_R01_Digits.ap) S_R01_Digits.ah) (fun y => fixR Tryz.prog S_R01_Digits.plan S_R01_Digits.ah.length y) =
    (m_R01_Digits [.i v0]).go br (fun _ => none) S_R01_Digits.fin := by
  rw [← callF_eq]; kernel_rfl
theorem e_R01_Digits : EOK Tryz.prog 92 (gF S_R01_Digits m_R01_Digits) :=
  eokTold mixed named x133 (loopsOK_list rids lk_R01_Digits_92_2) 60 S_R01_Digits m_R01_Digits (by
    intro us v h; unfold m_R01_Digits at h; split at h
    · rename_i v0; exact q_R01_Digits v0
    · cases h) false
noncomputable abbrev X134 : Ext := extT [(92, (gF S_R01_Digits m_R01_Digits))] X133
theorem x134 : XOK Tryz.prog X134 := xok1 x133 e_R01_Digits

/-- levee/leveeref01.Signed -/
def L_R01_Signed : FuncId → Nat → Option (List Nat) := liveT []
def M_R01_Signed : FuncId → Bool := fun _ => false
def S_R01_Signed : FSp := ⟨[.one (.i .i64)], [], [], [([.one (.s)], [])]⟩
noncomputable def m_R01_Signed : List U → Rt
  | [.i v0] =>
    (.test (decide (v0 < (0 : Int)))
    (let r0 : Rs := (Rt.res (m_R01_Digits [U.i (IntKind.wrap IntKind.u64 (IntKind.wrap IntKind.u64 (w64 ((0 : Int) - w64 (v0 + (1 : Int)))) + (1 : Int)))]))
    (.test (ok r0 0)
    (.test (decide (1 + ByteArray.size (uS (out r0 0) 0) ≤ 9223372036854775807))
    (.stop 0 [.s ({ data := #[(45 : UInt8)] } ++ uS (out r0 0) 0)])
    .fail)
    .fail))
    (let r1 : Rs := (Rt.res (m_R01_Digits [U.i (IntKind.wrap IntKind.u64 v0)]))
    (.test (ok r1 0)
    (.stop 0 [.s (uS (out r1 0) 0)])
    .fail)))
  | _ => .fail
set_option maxRecDepth 100000 in
theorem q_R01_Signed (v0 : Int) : callK br Tryz.prog X134 M_R01_Signed L_R01_Signed (lsT []) 60 56 (encs [.i v0] 0 S_R01_Signed.ap) (encH [.i v0] (ws S_R01_Signed.ap) S_R01_Signed.ah) (fun y => fixR Tryz.prog S_R01_Signed.plan S_R01_Signed.ah.length y) =
    (m_R01_Signed [.i v0]).go br (fun _ => none) S_R01_Signed.fin := by
  rw [← callF_eq]; kernel_rfl
theorem e_R01_Signed : EOK Tryz.prog 56 (gF S_R01_Signed m_R01_Signed) :=
  eokTold mixed named x134 (loopsOK_list rids noneIn) 60 S_R01_Signed m_R01_Signed (by
    intro us v h; unfold m_R01_Signed at h; split at h
    · rename_i v0; exact q_R01_Signed v0
    · cases h) false
noncomputable abbrev X135 : Ext := extT [(56, (gF S_R01_Signed m_R01_Signed))] X134
theorem x135 : XOK Tryz.prog X135 := xok1 x134 e_R01_Signed

/-- levee/leveeref01.Text -/
def L_R01_Text : FuncId → Nat → Option (List Nat) := liveT [(91, 13, [1, 3, 4]), (91, 1000013, [3]), (91, 2000013, [2])]
def M_R01_Text : FuncId → Bool := fun _ => false
noncomputable def rd_R01_Text_91_13 : List U → Rt
  | [.s v0, .i v1, .i v2, .i v3, .s v4] =>
    (.test (decide (v1 < (↑(ByteArray.size v4) : Int)))
    (.test (inR v1 (↑(ByteArray.size v4) : Int))
    (.test ((↑(UInt8.toNat (List.getD (Array.toList (ByteArray.data v4)) (Int.toNat v1) (0 : UInt8))) : Int) == (39 : Int))
    (.test (decide (ByteArray.size v0 + 1 ≤ 9223372036854775807))
    (.test (decide ((0 : Int) ≤ v1 ∧ v1 ≤ w64 (v1 + (1 : Int)) ∧ w64 (v1 + (1 : Int)) ≤ (↑(ByteArray.size v4) : Int)))
    (.test (decide (ByteArray.size (v0 ++ { data := #[(39 : UInt8)] }) + ByteArray.size (ByteArray.extract v4 (Int.toNat v1) (Int.toNat (w64 (v1 + (1 : Int))))) ≤ 9223372036854775807))
    (.next [.s (v0 ++ { data := #[(39 : UInt8)] } ++ ByteArray.extract v4 (Int.toNat v1) (Int.toNat (w64 (v1 + (1 : Int))))), .i (w64 (v1 + (1 : Int))), .i v2, .i v3, .s v4])
    .fail)
    .fail)
    .fail)
    (.test (decide ((0 : Int) ≤ v1 ∧ v1 ≤ w64 (v1 + (1 : Int)) ∧ w64 (v1 + (1 : Int)) ≤ (↑(ByteArray.size v4) : Int)))
    (.test (decide (ByteArray.size v0 + ByteArray.size (ByteArray.extract v4 (Int.toNat v1) (Int.toNat (w64 (v1 + (1 : Int))))) ≤ 9223372036854775807))
    (.next [.s (v0 ++ ByteArray.extract v4 (Int.toNat v1) (Int.toNat (w64 (v1 + (1 : Int))))), .i (w64 (v1 + (1 : Int))), .i v2, .i v3, .s v4])
    .fail)
    .fail))
    .fail)
    (.stop 0 [.s v0]))
  | _ => .fail
def sp_R01_Text_91_13 : LSp := ⟨45, ⟨[(1, .one (.ptr 0 0)), (3, .one (.s)), (4, .one (.i .i64))], [.box 31 [.one (.i .i64), .one (.i .i64), .one (.s)]]⟩, [(.exit 1, ⟨[(3, .one (.s))], []⟩)]⟩
set_option maxRecDepth 100000 in
theorem rq_R01_Text_91_13 (v0 : ByteArray) (v1 : Int) (v2 : Int) (v3 : Int) (v4 : ByteArray) : runK br Tryz.prog (callK br Tryz.prog X135 M_R01_Text L_R01_Text (lsT []) 40) M_R01_Text (lsT [] 91 0) 40 0 (L_R01_Text 91) (bodyOf Tryz.prog 91 13) (sp_R01_Text_91_13.s.ts sp_R01_Text_91_13.n [.s v0, .i v1, .i v2, .i v3, .s v4]) (sp_R01_Text_91_13.s.h [.s v0, .i v1, .i v2, .i v3, .s v4]) (idc Tryz.prog 0 (L_R01_Text 91) 13) =
    (rd_R01_Text_91_13 [.s v0, .i v1, .i v2, .i v3, .s v4]).go br (fun us' => some (.normal, sp_R01_Text_91_13.s.ts sp_R01_Text_91_13.n us', sp_R01_Text_91_13.s.h us')) sp_R01_Text_91_13.fin := by
  rw [← callF_eq, ← runF_eq]; kernel_rfl
theorem lo_R01_Text_91_13 {R : Type} : LoopTells Tryz.prog X135 M_R01_Text L_R01_Text 0 (L_R01_Text 91) (bodyOf Tryz.prog 91 13) (gL (R := R) sp_R01_Text_91_13 rd_R01_Text_91_13 br) :=
  loopTold (callK_ev (loopsOK_list rids noneIn) 40) (lsokIn (loopsOK_list rids noneIn) 91 0 13) (by kernel_rfl) sp_R01_Text_91_13 rd_R01_Text_91_13 rfl (by kernel_rfl) (by
    intro us v h; unfold rd_R01_Text_91_13 at h; split at h
    · rename_i v0 v1 v2 v3 v4; exact rq_R01_Text_91_13 v0 v1 v2 v3 v4
    · cases h)
noncomputable abbrev ll_R01_Text_91_13 {R : Type} : List (Nat × Nat × Nat × Smy R) := (91, 0, 13, gL sp_R01_Text_91_13 rd_R01_Text_91_13 br) :: []
theorem lk_R01_Text_91_13 {R : Type} : ∀ e ∈ ll_R01_Text_91_13 (R := R), LoopTells Tryz.prog X135 M_R01_Text L_R01_Text e.2.1 (L_R01_Text e.1) (bodyOf Tryz.prog e.1 e.2.2.1) e.2.2.2 := List.forall_mem_cons.2 ⟨lo_R01_Text_91_13, noneIn⟩
def S_R01_Text : FSp := ⟨[.agg [.i .i64, .i .i64, .s]], [], [], [([.one (.s)], [])]⟩
noncomputable def m_R01_Text : List U → Rt
  | [.i v0, .i v1, .s v2] =>
    (.test (v0 == (0 : Int))
    (.stop 0 [.s ({ data := #[(110 : UInt8), (117 : UInt8), (108 : UInt8), (108 : UInt8)] })])
    (.test (v0 == (1 : Int))
    (.test (v1 == (0 : Int))
    (.stop 0 [.s ({ data := #[(102 : UInt8), (97 : UInt8), (108 : UInt8), (115 : UInt8), (101 : UInt8)] })])
    (.stop 0 [.s ({ data := #[(116 : UInt8), (114 : UInt8), (117 : UInt8), (101 : UInt8)] })]))
    (.test (v0 == (2 : Int))
    (let r0 : Rs := (Rt.res (m_R01_Signed [U.i v1]))
    (.test (ok r0 0)
    (.stop 0 [.s (uS (out r0 0) 0)])
    .fail))
    (.test (v0 == (3 : Int))
    (let r1 : Rs := (lres rd_R01_Text_91_13 [U.s { data := #[(39 : UInt8)] }, U.i (0 : Int), U.i v0, U.i v1, U.s v2])
    (.test (ok r1 0)
    (.test (decide (ByteArray.size (uS (out r1 0) 0) + 1 ≤ 9223372036854775807))
    (.stop 0 [.s (uS (out r1 0) 0 ++ { data := #[(39 : UInt8)] })])
    .fail)
    .fail))
    (.stop 0 [.s ({ data := #[(63 : UInt8)] })])))))
  | _ => .fail
set_option maxRecDepth 100000 in
theorem q_R01_Text (v0 : Int) (v1 : Int) (v2 : ByteArray) : callK br Tryz.prog X135 M_R01_Text L_R01_Text (lsT ll_R01_Text_91_13) 60 91 (encs [.i v0, .i v1, .s v2] 0 S_R01_Text.ap) (encH [.i v0, .i v1, .s v2] (ws S_R01_Text.ap) S_R01_Text.ah) (fun y => fixR Tryz.prog S_R01_Text.plan S_R01_Text.ah.length y) =
    (m_R01_Text [.i v0, .i v1, .s v2]).go br (fun _ => none) S_R01_Text.fin := by
  rw [← callF_eq]; kernel_rfl
theorem e_R01_Text : EOK Tryz.prog 91 (gF S_R01_Text m_R01_Text) :=
  eokTold mixed named x135 (loopsOK_list rids lk_R01_Text_91_13) 60 S_R01_Text m_R01_Text (by
    intro us v h; unfold m_R01_Text at h; split at h
    · rename_i v0 v1 v2; exact q_R01_Text v0 v1 v2
    · cases h) false
noncomputable abbrev X136 : Ext := extT [(91, (gF S_R01_Text m_R01_Text))] X135
theorem x136 : XOK Tryz.prog X136 := xok1 x135 e_R01_Text

/-- levee/leveeref04.Text -/
def L_R04_Text : FuncId → Nat → Option (List Nat) := liveT [(55, 3, [0, 3, 4]), (55, 1000003, [3]), (55, 2000003, [2])]
def M_R04_Text : FuncId → Bool := fun _ => false
noncomputable def rd_R04_Text_55_3 : List U → Rt
  | [.l v0, .s v1, .i v2] =>
    (.test (decide (v2 < ln v0))
    (.test (decide (v2 > (0 : Int)))
    (.test (decide (ByteArray.size v1 + 2 ≤ 9223372036854775807))
    (.test (inR v2 (ln v0))
    (let r0 : Rs := (Rt.res (m_R01_Text [U.i (cI (el v0 v2) 0), U.i (cI (el v0 v2) 1), U.s (cS (el v0 v2) 2)]))
    (.test (ok r0 0)
    (.test (decide (ByteArray.size (v1 ++ { data := #[(44 : UInt8), (32 : UInt8)] }) + ByteArray.size (uS (out r0 0) 0) ≤ 9223372036854775807))
    (.next [.l v0, .s (v1 ++ { data := #[(44 : UInt8), (32 : UInt8)] } ++ uS (out r0 0) 0), .i (w64 (v2 + (1 : Int)))])
    .fail)
    .fail))
    .fail)
    .fail)
    (.test (inR v2 (ln v0))
    (let r1 : Rs := (Rt.res (m_R01_Text [U.i (cI (el v0 v2) 0), U.i (cI (el v0 v2) 1), U.s (cS (el v0 v2) 2)]))
    (.test (ok r1 0)
    (.test (decide (ByteArray.size v1 + ByteArray.size (uS (out r1 0) 0) ≤ 9223372036854775807))
    (.next [.l v0, .s (v1 ++ uS (out r1 0) 0), .i (w64 (v2 + (1 : Int)))])
    .fail)
    .fail))
    .fail))
    (.stop 0 [.s v1]))
  | _ => .fail
def sp_R04_Text_55_3 : LSp := ⟨24, ⟨[(0, .one (.l 31)), (3, .one (.s)), (4, .one (.i .i64))], []⟩, [(.exit 0, ⟨[(3, .one (.s))], []⟩)]⟩
set_option maxRecDepth 100000 in
theorem rq_R04_Text_55_3 (v0 : List (List PV)) (v1 : ByteArray) (v2 : Int) : runK br Tryz.prog (callK br Tryz.prog X136 M_R04_Text L_R04_Text (lsT []) 40) M_R04_Text (lsT [] 55 0) 40 0 (L_R04_Text 55) (bodyOf Tryz.prog 55 3) (sp_R04_Text_55_3.s.ts sp_R04_Text_55_3.n [.l v0, .s v1, .i v2]) (sp_R04_Text_55_3.s.h [.l v0, .s v1, .i v2]) (idc Tryz.prog 0 (L_R04_Text 55) 3) =
    (rd_R04_Text_55_3 [.l v0, .s v1, .i v2]).go br (fun us' => some (.normal, sp_R04_Text_55_3.s.ts sp_R04_Text_55_3.n us', sp_R04_Text_55_3.s.h us')) sp_R04_Text_55_3.fin := by
  rw [← callF_eq, ← runF_eq]; kernel_rfl
theorem lo_R04_Text_55_3 {R : Type} : LoopTells Tryz.prog X136 M_R04_Text L_R04_Text 0 (L_R04_Text 55) (bodyOf Tryz.prog 55 3) (gL (R := R) sp_R04_Text_55_3 rd_R04_Text_55_3 br) :=
  loopTold (callK_ev (loopsOK_list rids noneIn) 40) (lsokIn (loopsOK_list rids noneIn) 55 0 3) (by kernel_rfl) sp_R04_Text_55_3 rd_R04_Text_55_3 rfl (by kernel_rfl) (by
    intro us v h; unfold rd_R04_Text_55_3 at h; split at h
    · rename_i v0 v1 v2; exact rq_R04_Text_55_3 v0 v1 v2
    · cases h)
noncomputable abbrev ll_R04_Text_55_3 {R : Type} : List (Nat × Nat × Nat × Smy R) := (55, 0, 3, gL sp_R04_Text_55_3 rd_R04_Text_55_3 br) :: []
theorem lk_R04_Text_55_3 {R : Type} : ∀ e ∈ ll_R04_Text_55_3 (R := R), LoopTells Tryz.prog X136 M_R04_Text L_R04_Text e.2.1 (L_R04_Text e.1) (bodyOf Tryz.prog e.1 e.2.2.1) e.2.2.2 := List.forall_mem_cons.2 ⟨lo_R04_Text_55_3, noneIn⟩
def S_R04_Text : FSp := ⟨[.one (.l 31)], [], [], [([.one (.s)], [])]⟩
noncomputable def m_R04_Text : List U → Rt
  | [.l v0] =>
    (let r0 : Rs := (lres rd_R04_Text_55_3 [U.l v0, U.s { data := #[(40 : UInt8)] }, U.i (0 : Int)])
    (.test (ok r0 0)
    (.test (decide (ByteArray.size (uS (out r0 0) 0) + 1 ≤ 9223372036854775807))
    (.stop 0 [.s (uS (out r0 0) 0 ++ { data := #[(41 : UInt8)] })])
    .fail)
    .fail))
  | _ => .fail
set_option maxRecDepth 100000 in
theorem q_R04_Text (v0 : List (List PV)) : callK br Tryz.prog X136 M_R04_Text L_R04_Text (lsT ll_R04_Text_55_3) 60 55 (encs [.l v0] 0 S_R04_Text.ap) (encH [.l v0] (ws S_R04_Text.ap) S_R04_Text.ah) (fun y => fixR Tryz.prog S_R04_Text.plan S_R04_Text.ah.length y) =
    (m_R04_Text [.l v0]).go br (fun _ => none) S_R04_Text.fin := by
  rw [← callF_eq]; kernel_rfl
theorem e_R04_Text : EOK Tryz.prog 55 (gF S_R04_Text m_R04_Text) :=
  eokTold mixed named x136 (loopsOK_list rids lk_R04_Text_55_3) 60 S_R04_Text m_R04_Text (by
    intro us v h; unfold m_R04_Text at h; split at h
    · rename_i v0; exact q_R04_Text v0
    · cases h) false
noncomputable abbrev X137 : Ext := extT [(55, (gF S_R04_Text m_R04_Text))] X136
theorem x137 : XOK Tryz.prog X137 := xok1 x136 e_R04_Text

/-- levee/leveeref05.Text -/
def L_R05_Text : FuncId → Nat → Option (List Nat) := liveT [(21, 3, [0, 3, 4]), (21, 1000003, [3]), (21, 2000003, [2])]
def M_R05_Text : FuncId → Bool := fun _ => false
noncomputable def rd_R05_Text_21_3 : List U → Rt
  | [.l v0, .s v1, .i v2] =>
    (.test (decide (v2 < ln v0))
    (let r0 : Rs := (Rt.res (m_R05_May [U.l v0]))
    (.test (ok r0 0)
    (.test (uB (out r0 0) 0)
    (.test (decide (v2 > (0 : Int)))
    (.test (decide (ByteArray.size v1 + 1 ≤ 9223372036854775807))
    (.test (inR v2 (ln v0))
    (let r1 : Rs := (Rt.res (m_R04_Text [U.l (cL (el v0 v2) 0)]))
    (.test (ok r1 0)
    (.test (decide (ByteArray.size (v1 ++ { data := #[(32 : UInt8)] }) + ByteArray.size (uS (out r1 0) 0) ≤ 9223372036854775807))
    (.test (inR v2 (ln v0))
    (.test (cI (el v0 v2) 1 != (1 : Int))
    (.test (inR v2 (ln v0))
    (let r2 : Rs := (Rt.res (m_R01_Signed [U.i (cI (el v0 v2) 1)]))
    (.test (ok r2 0)
    (.test (decide (1 + ByteArray.size (uS (out r2 0) 0) ≤ 9223372036854775807))
    (.test (decide (ByteArray.size (v1 ++ { data := #[(32 : UInt8)] } ++ uS (out r1 0) 0) + ByteArray.size ({ data := #[(42 : UInt8)] } ++ uS (out r2 0) 0) ≤ 9223372036854775807))
    (.next [.l v0, .s (v1 ++ { data := #[(32 : UInt8)] } ++ uS (out r1 0) 0 ++ ({ data := #[(42 : UInt8)] } ++ uS (out r2 0) 0)), .i (w64 (v2 + (1 : Int)))])
    .fail)
    .fail)
    .fail))
    .fail)
    (.next [.l v0, .s (v1 ++ { data := #[(32 : UInt8)] } ++ uS (out r1 0) 0), .i (w64 (v2 + (1 : Int)))]))
    .fail)
    .fail)
    .fail))
    .fail)
    .fail)
    (.test (inR v2 (ln v0))
    (let r3 : Rs := (Rt.res (m_R04_Text [U.l (cL (el v0 v2) 0)]))
    (.test (ok r3 0)
    (.test (decide (ByteArray.size v1 + ByteArray.size (uS (out r3 0) 0) ≤ 9223372036854775807))
    (.test (inR v2 (ln v0))
    (.test (cI (el v0 v2) 1 != (1 : Int))
    (.test (inR v2 (ln v0))
    (let r4 : Rs := (Rt.res (m_R01_Signed [U.i (cI (el v0 v2) 1)]))
    (.test (ok r4 0)
    (.test (decide (1 + ByteArray.size (uS (out r4 0) 0) ≤ 9223372036854775807))
    (.test (decide (ByteArray.size (v1 ++ uS (out r3 0) 0) + ByteArray.size ({ data := #[(42 : UInt8)] } ++ uS (out r4 0) 0) ≤ 9223372036854775807))
    (.next [.l v0, .s (v1 ++ uS (out r3 0) 0 ++ ({ data := #[(42 : UInt8)] } ++ uS (out r4 0) 0)), .i (w64 (v2 + (1 : Int)))])
    .fail)
    .fail)
    .fail))
    .fail)
    (.next [.l v0, .s (v1 ++ uS (out r3 0) 0), .i (w64 (v2 + (1 : Int)))]))
    .fail)
    .fail)
    .fail))
    .fail))
    (.stop 0 [.s v1]))
    .fail))
    (.stop 0 [.s v1]))
  | _ => .fail
def sp_R05_Text_21_3 : LSp := ⟨43, ⟨[(0, .one (.l 49)), (3, .one (.s)), (4, .one (.i .i64))], []⟩, [(.exit 0, ⟨[(3, .one (.s))], []⟩)]⟩
set_option maxRecDepth 100000 in
theorem rq_R05_Text_21_3 (v0 : List (List PV)) (v1 : ByteArray) (v2 : Int) : runK br Tryz.prog (callK br Tryz.prog X137 M_R05_Text L_R05_Text (lsT []) 40) M_R05_Text (lsT [] 21 0) 40 0 (L_R05_Text 21) (bodyOf Tryz.prog 21 3) (sp_R05_Text_21_3.s.ts sp_R05_Text_21_3.n [.l v0, .s v1, .i v2]) (sp_R05_Text_21_3.s.h [.l v0, .s v1, .i v2]) (idc Tryz.prog 0 (L_R05_Text 21) 3) =
    (rd_R05_Text_21_3 [.l v0, .s v1, .i v2]).go br (fun us' => some (.normal, sp_R05_Text_21_3.s.ts sp_R05_Text_21_3.n us', sp_R05_Text_21_3.s.h us')) sp_R05_Text_21_3.fin := by
  rw [← callF_eq, ← runF_eq]; kernel_rfl
theorem lo_R05_Text_21_3 {R : Type} : LoopTells Tryz.prog X137 M_R05_Text L_R05_Text 0 (L_R05_Text 21) (bodyOf Tryz.prog 21 3) (gL (R := R) sp_R05_Text_21_3 rd_R05_Text_21_3 br) :=
  loopTold (callK_ev (loopsOK_list rids noneIn) 40) (lsokIn (loopsOK_list rids noneIn) 21 0 3) (by kernel_rfl) sp_R05_Text_21_3 rd_R05_Text_21_3 rfl (by kernel_rfl) (by
    intro us v h; unfold rd_R05_Text_21_3 at h; split at h
    · rename_i v0 v1 v2; exact rq_R05_Text_21_3 v0 v1 v2
    · cases h)
noncomputable abbrev ll_R05_Text_21_3 {R : Type} : List (Nat × Nat × Nat × Smy R) := (21, 0, 3, gL sp_R05_Text_21_3 rd_R05_Text_21_3 br) :: []
theorem lk_R05_Text_21_3 {R : Type} : ∀ e ∈ ll_R05_Text_21_3 (R := R), LoopTells Tryz.prog X137 M_R05_Text L_R05_Text e.2.1 (L_R05_Text e.1) (bodyOf Tryz.prog e.1 e.2.2.1) e.2.2.2 := List.forall_mem_cons.2 ⟨lo_R05_Text_21_3, noneIn⟩
def S_R05_Text : FSp := ⟨[.one (.l 49)], [], [], [([.one (.s)], [])]⟩
noncomputable def m_R05_Text : List U → Rt
  | [.l v0] =>
    (let r0 : Rs := (lres rd_R05_Text_21_3 [U.l v0, U.s { data := #[] }, U.i (0 : Int)])
    (.test (ok r0 0)
    (.stop 0 [.s (uS (out r0 0) 0)])
    .fail))
  | _ => .fail
set_option maxRecDepth 100000 in
theorem q_R05_Text (v0 : List (List PV)) : callK br Tryz.prog X137 M_R05_Text L_R05_Text (lsT ll_R05_Text_21_3) 60 21 (encs [.l v0] 0 S_R05_Text.ap) (encH [.l v0] (ws S_R05_Text.ap) S_R05_Text.ah) (fun y => fixR Tryz.prog S_R05_Text.plan S_R05_Text.ah.length y) =
    (m_R05_Text [.l v0]).go br (fun _ => none) S_R05_Text.fin := by
  rw [← callF_eq]; kernel_rfl
theorem e_R05_Text : EOK Tryz.prog 21 (gF S_R05_Text m_R05_Text) :=
  eokTold mixed named x137 (loopsOK_list rids lk_R05_Text_21_3) 60 S_R05_Text m_R05_Text (by
    intro us v h; unfold m_R05_Text at h; split at h
    · rename_i v0; exact q_R05_Text v0
    · cases h) false
noncomputable abbrev X138 : Ext := extT [(21, (gF S_R05_Text m_R05_Text))] X137
theorem x138 : XOK Tryz.prog X138 := xok1 x137 e_R05_Text

/-- levee/leveeref05.Rows -/
def L_R05_Rows : FuncId → Nat → Option (List Nat) := liveT [(23, 3, [0, 4, 5]), (23, 1000003, [0]), (23, 2000003, [2, 3]), (23, 17, [0, 6, 7, 8]), (23, 1000017, [0, 6, 7]), (23, 2000017, [2, 3]), (23, 14, [0, 6, 7]), (23, 1000014, [6]), (23, 2000014, [2, 3])]
def M_R05_Rows : FuncId → Bool := fun _ => false
noncomputable def rd_R05_Rows_23_3 : List U → Rt
  | [.l v0, .i v1, .i v2] =>
    (.test (decide (v2 < ln v0))
    (.test (inR v2 (ln v0))
    (.test (decide (cI (el v0 v2) 1 < (0 : Int)))
    (.stop 0 [.b false])
    (.test (inR v2 (ln v0))
    (.test (decide (cI (el v0 v2) 1 > (100000 : Int)))
    (.stop 0 [.b false])
    (.test (inR v2 (ln v0))
    (.test (decide (w64 (v1 + cI (el v0 v2) 1) > (100000 : Int)))
    (.stop 0 [.b false])
    (.next [.l v0, .i (w64 (v1 + cI (el v0 v2) 1)), .i (w64 (v2 + (1 : Int)))]))
    .fail))
    .fail))
    .fail)
    (.stop 1 [.l v0]))
  | _ => .fail
def sp_R05_Rows_23_3 : LSp := ⟨66, ⟨[(0, .one (.l 49)), (4, .one (.i .i64)), (5, .one (.i .i64))], []⟩, [(.ret, ⟨[(2, .one (.nils)), (3, .one (.b))], []⟩), (.exit 0, ⟨[(0, .one (.l 49))], []⟩)]⟩
set_option maxRecDepth 100000 in
theorem rq_R05_Rows_23_3 (v0 : List (List PV)) (v1 : Int) (v2 : Int) : runK br Tryz.prog (callK br Tryz.prog X138 M_R05_Rows L_R05_Rows (lsT []) 40) M_R05_Rows (lsT [] 23 0) 40 0 (L_R05_Rows 23) (bodyOf Tryz.prog 23 3) (sp_R05_Rows_23_3.s.ts sp_R05_Rows_23_3.n [.l v0, .i v1, .i v2]) (sp_R05_Rows_23_3.s.h [.l v0, .i v1, .i v2]) (idc Tryz.prog 0 (L_R05_Rows 23) 3) =
    (rd_R05_Rows_23_3 [.l v0, .i v1, .i v2]).go br (fun us' => some (.normal, sp_R05_Rows_23_3.s.ts sp_R05_Rows_23_3.n us', sp_R05_Rows_23_3.s.h us')) sp_R05_Rows_23_3.fin := by
  rw [← callF_eq, ← runF_eq]; kernel_rfl
theorem lo_R05_Rows_23_3 {R : Type} : LoopTells Tryz.prog X138 M_R05_Rows L_R05_Rows 0 (L_R05_Rows 23) (bodyOf Tryz.prog 23 3) (gL (R := R) sp_R05_Rows_23_3 rd_R05_Rows_23_3 br) :=
  loopTold (callK_ev (loopsOK_list rids noneIn) 40) (lsokIn (loopsOK_list rids noneIn) 23 0 3) (by kernel_rfl) sp_R05_Rows_23_3 rd_R05_Rows_23_3 rfl (by kernel_rfl) (by
    intro us v h; unfold rd_R05_Rows_23_3 at h; split at h
    · rename_i v0 v1 v2; exact rq_R05_Rows_23_3 v0 v1 v2
    · cases h)
noncomputable abbrev ll_R05_Rows_23_3 {R : Type} : List (Nat × Nat × Nat × Smy R) := (23, 0, 3, gL sp_R05_Rows_23_3 rd_R05_Rows_23_3 br) :: []
theorem lk_R05_Rows_23_3 {R : Type} : ∀ e ∈ ll_R05_Rows_23_3 (R := R), LoopTells Tryz.prog X138 M_R05_Rows L_R05_Rows e.2.1 (L_R05_Rows e.1) (bodyOf Tryz.prog e.1 e.2.2.1) e.2.2.2 := List.forall_mem_cons.2 ⟨lo_R05_Rows_23_3, noneIn⟩
noncomputable def rd_R05_Rows_23_17 : List U → Rt
  | [.l v0, .i v1, .i v2, .l v3] =>
    (.test (inR v1 (ln v0))
    (.test (decide (v2 < cI (el v0 v1) 1))
    (.test (inR v1 (ln v0))
    (.test (decide ((List.length v3 + 1) * 24 ≤ 140737488355328))
    (.next [.l v0, .i v1, .i (w64 (v2 + (1 : Int))), .l (v3 ++ [[PV.lst 31 (cL (el v0 v1) 0)]])])
    .fail)
    .fail)
    (.stop 0 [.l v0, .i v1, .l v3]))
    .fail)
  | _ => .fail
def sp_R05_Rows_23_17 : LSp := ⟨66, ⟨[(0, .one (.l 49)), (6, .one (.all 0)), (7, .one (.i .i64)), (8, .one (.i .i64))], [.arr 25 true]⟩, [(.exit 4, ⟨[(0, .one (.l 49)), (6, .one (.all 0)), (7, .one (.i .i64))], [.arr 25 true]⟩)]⟩
set_option maxRecDepth 100000 in
theorem rq_R05_Rows_23_17 (v0 : List (List PV)) (v1 : Int) (v2 : Int) (v3 : List (List PV)) : runK br Tryz.prog (callK br Tryz.prog X138 M_R05_Rows L_R05_Rows (lsT ll_R05_Rows_23_3) 40) M_R05_Rows (lsT ll_R05_Rows_23_3 23 0) 40 0 (L_R05_Rows 23) (bodyOf Tryz.prog 23 17) (sp_R05_Rows_23_17.s.ts sp_R05_Rows_23_17.n [.l v0, .i v1, .i v2, .l v3]) (sp_R05_Rows_23_17.s.h [.l v0, .i v1, .i v2, .l v3]) (idc Tryz.prog 0 (L_R05_Rows 23) 17) =
    (rd_R05_Rows_23_17 [.l v0, .i v1, .i v2, .l v3]).go br (fun us' => some (.normal, sp_R05_Rows_23_17.s.ts sp_R05_Rows_23_17.n us', sp_R05_Rows_23_17.s.h us')) sp_R05_Rows_23_17.fin := by
  rw [← callF_eq, ← runF_eq]; kernel_rfl
theorem lo_R05_Rows_23_17 {R : Type} : LoopTells Tryz.prog X138 M_R05_Rows L_R05_Rows 0 (L_R05_Rows 23) (bodyOf Tryz.prog 23 17) (gL (R := R) sp_R05_Rows_23_17 rd_R05_Rows_23_17 br) :=
  loopTold (callK_ev (loopsOK_list rids lk_R05_Rows_23_3) 40) (lsokIn (loopsOK_list rids lk_R05_Rows_23_3) 23 0 17) (by kernel_rfl) sp_R05_Rows_23_17 rd_R05_Rows_23_17 rfl (by kernel_rfl) (by
    intro us v h; unfold rd_R05_Rows_23_17 at h; split at h
    · rename_i v0 v1 v2 v3; exact rq_R05_Rows_23_17 v0 v1 v2 v3
    · cases h)
noncomputable abbrev ll_R05_Rows_23_17 {R : Type} : List (Nat × Nat × Nat × Smy R) := (23, 0, 17, gL sp_R05_Rows_23_17 rd_R05_Rows_23_17 br) :: ll_R05_Rows_23_3
theorem lk_R05_Rows_23_17 {R : Type} : ∀ e ∈ ll_R05_Rows_23_17 (R := R), LoopTells Tryz.prog X138 M_R05_Rows L_R05_Rows e.2.1 (L_R05_Rows e.1) (bodyOf Tryz.prog e.1 e.2.2.1) e.2.2.2 := List.forall_mem_cons.2 ⟨lo_R05_Rows_23_17, lk_R05_Rows_23_3⟩
noncomputable def rd_R05_Rows_23_14 : List U → Rt
  | [.l v0, .i v1, .l v2] =>
    (.test (decide (v1 < ln v0))
    (let r0 : Rs := (lres rd_R05_Rows_23_17 [U.l v0, U.i v1, U.i (0 : Int), U.l v2])
    (.test (ok r0 0)
    (.next [.l (uL (out r0 0) 0), .i (w64 (uI (out r0 0) 1 + (1 : Int))), .l (uL (out r0 0) 2)])
    .fail))
    (.stop 0 [.l v2]))
  | _ => .fail
def sp_R05_Rows_23_14 : LSp := ⟨66, ⟨[(0, .one (.l 49)), (6, .one (.all 0)), (7, .one (.i .i64))], [.arr 25 true]⟩, [(.exit 2, ⟨[(6, .one (.all 0))], [.arr 25 true]⟩)]⟩
set_option maxRecDepth 100000 in
theorem rq_R05_Rows_23_14 (v0 : List (List PV)) (v1 : Int) (v2 : List (List PV)) : runK br Tryz.prog (callK br Tryz.prog X138 M_R05_Rows L_R05_Rows (lsT ll_R05_Rows_23_17) 40) M_R05_Rows (lsT ll_R05_Rows_23_17 23 0) 40 0 (L_R05_Rows 23) (bodyOf Tryz.prog 23 14) (sp_R05_Rows_23_14.s.ts sp_R05_Rows_23_14.n [.l v0, .i v1, .l v2]) (sp_R05_Rows_23_14.s.h [.l v0, .i v1, .l v2]) (idc Tryz.prog 0 (L_R05_Rows 23) 14) =
    (rd_R05_Rows_23_14 [.l v0, .i v1, .l v2]).go br (fun us' => some (.normal, sp_R05_Rows_23_14.s.ts sp_R05_Rows_23_14.n us', sp_R05_Rows_23_14.s.h us')) sp_R05_Rows_23_14.fin := by
  rw [← callF_eq, ← runF_eq]; kernel_rfl
theorem lo_R05_Rows_23_14 {R : Type} : LoopTells Tryz.prog X138 M_R05_Rows L_R05_Rows 0 (L_R05_Rows 23) (bodyOf Tryz.prog 23 14) (gL (R := R) sp_R05_Rows_23_14 rd_R05_Rows_23_14 br) :=
  loopTold (callK_ev (loopsOK_list rids lk_R05_Rows_23_17) 40) (lsokIn (loopsOK_list rids lk_R05_Rows_23_17) 23 0 14) (by kernel_rfl) sp_R05_Rows_23_14 rd_R05_Rows_23_14 rfl (by kernel_rfl) (by
    intro us v h; unfold rd_R05_Rows_23_14 at h; split at h
    · rename_i v0 v1 v2; exact rq_R05_Rows_23_14 v0 v1 v2
    · cases h)
noncomputable abbrev ll_R05_Rows_23_14 {R : Type} : List (Nat × Nat × Nat × Smy R) := (23, 0, 14, gL sp_R05_Rows_23_14 rd_R05_Rows_23_14 br) :: ll_R05_Rows_23_17
theorem lk_R05_Rows_23_14 {R : Type} : ∀ e ∈ ll_R05_Rows_23_14 (R := R), LoopTells Tryz.prog X138 M_R05_Rows L_R05_Rows e.2.1 (L_R05_Rows e.1) (bodyOf Tryz.prog e.1 e.2.2.1) e.2.2.2 := List.forall_mem_cons.2 ⟨lo_R05_Rows_23_14, lk_R05_Rows_23_17⟩
def S_R05_Rows : FSp := ⟨[.one (.l 49)], [], [51000000], [([.one (.all 0), .one (.b)], [.arr 25 true])]⟩
noncomputable def m_R05_Rows : List U → Rt
  | [.l v0] =>
    (let r0 : Rs := (lres rd_R05_Rows_23_3 [U.l v0, U.i (0 : Int), U.i (0 : Int)])
    (.test (ok r0 0)
    (.stop 0 [.b (uB (out r0 0) 0), .l []])
    (.test (ok r0 1)
    (let r1 : Rs := (Rt.res (m_R05_May [U.l (uL (out r0 1) 0)]))
    (.test (ok r1 0)
    (.test (!uB (out r1 0) 0)
    (.stop 0 [.b false, .l []])
    (let r2 : Rs := (lres rd_R05_Rows_23_14 [U.l (uL (out r0 1) 0), U.i (0 : Int), U.l []])
    (.test (ok r2 0)
    (.stop 0 [.b true, .l (uL (out r2 0) 0)])
    .fail)))
    .fail))
    .fail)))
  | _ => .fail
set_option maxRecDepth 100000 in
theorem q_R05_Rows (v0 : List (List PV)) : callK br Tryz.prog X138 M_R05_Rows L_R05_Rows (lsT ll_R05_Rows_23_14) 60 23 (encs [.l v0] 0 S_R05_Rows.ap) (encH [.l v0] (ws S_R05_Rows.ap) S_R05_Rows.ah) (fun y => fixR Tryz.prog S_R05_Rows.plan S_R05_Rows.ah.length y) =
    (m_R05_Rows [.l v0]).go br (fun _ => none) S_R05_Rows.fin := by
  rw [← callF_eq]; kernel_rfl
theorem e_R05_Rows : EOK Tryz.prog 23 (gF S_R05_Rows m_R05_Rows) :=
  eokTold mixed named x138 (loopsOK_list rids lk_R05_Rows_23_14) 60 S_R05_Rows m_R05_Rows (by
    intro us v h; unfold m_R05_Rows at h; split at h
    · rename_i v0; exact q_R05_Rows v0
    · cases h) false
noncomputable abbrev X139 : Ext := extT [(23, (gF S_R05_Rows m_R05_Rows))] X138
theorem x139 : XOK Tryz.prog X139 := xok1 x138 e_R05_Rows

/-- levee/leveeref04.Same -/
def L_R04_Same : FuncId → Nat → Option (List Nat) := liveT [(24, 4, [0, 1, 5]), (24, 1000004, []), (24, 2000004, [4])]
def M_R04_Same : FuncId → Bool := fun _ => false
noncomputable def rd_R04_Same_24_4 : List U → Rt
  | [.l v0, .l v1, .i v2] =>
    (.test (decide (v2 < ln v0))
    (.test (inR v2 (ln v0))
    (.test (inR v2 (ln v1))
    (let r0 : Rs := (Rt.res (m_R02_Compare [U.l (cL (el v0 v2) 0), U.l (cL (el v1 v2) 0)]))
    (.test (ok r0 0)
    (.test (uI (out r0 0) 0 != (0 : Int))
    (.stop 0 [.b false])
    (.next [.l v0, .l v1, .i (w64 (v2 + (1 : Int)))]))
    .fail))
    .fail)
    .fail)
    (.stop 1 []))
  | _ => .fail
def sp_R04_Same_24_4 : LSp := ⟨27, ⟨[(0, .one (.l 25)), (1, .one (.l 25)), (5, .one (.i .i64))], []⟩, [(.ret, ⟨[(4, .one (.b))], []⟩), (.exit 0, ⟨[], []⟩)]⟩
set_option maxRecDepth 100000 in
theorem rq_R04_Same_24_4 (v0 : List (List PV)) (v1 : List (List PV)) (v2 : Int) : runK br Tryz.prog (callK br Tryz.prog X139 M_R04_Same L_R04_Same (lsT []) 40) M_R04_Same (lsT [] 24 0) 40 0 (L_R04_Same 24) (bodyOf Tryz.prog 24 4) (sp_R04_Same_24_4.s.ts sp_R04_Same_24_4.n [.l v0, .l v1, .i v2]) (sp_R04_Same_24_4.s.h [.l v0, .l v1, .i v2]) (idc Tryz.prog 0 (L_R04_Same 24) 4) =
    (rd_R04_Same_24_4 [.l v0, .l v1, .i v2]).go br (fun us' => some (.normal, sp_R04_Same_24_4.s.ts sp_R04_Same_24_4.n us', sp_R04_Same_24_4.s.h us')) sp_R04_Same_24_4.fin := by
  rw [← callF_eq, ← runF_eq]; kernel_rfl
theorem lo_R04_Same_24_4 {R : Type} : LoopTells Tryz.prog X139 M_R04_Same L_R04_Same 0 (L_R04_Same 24) (bodyOf Tryz.prog 24 4) (gL (R := R) sp_R04_Same_24_4 rd_R04_Same_24_4 br) :=
  loopTold (callK_ev (loopsOK_list rids noneIn) 40) (lsokIn (loopsOK_list rids noneIn) 24 0 4) (by kernel_rfl) sp_R04_Same_24_4 rd_R04_Same_24_4 rfl (by kernel_rfl) (by
    intro us v h; unfold rd_R04_Same_24_4 at h; split at h
    · rename_i v0 v1 v2; exact rq_R04_Same_24_4 v0 v1 v2
    · cases h)
noncomputable abbrev ll_R04_Same_24_4 {R : Type} : List (Nat × Nat × Nat × Smy R) := (24, 0, 4, gL sp_R04_Same_24_4 rd_R04_Same_24_4 br) :: []
theorem lk_R04_Same_24_4 {R : Type} : ∀ e ∈ ll_R04_Same_24_4 (R := R), LoopTells Tryz.prog X139 M_R04_Same L_R04_Same e.2.1 (L_R04_Same e.1) (bodyOf Tryz.prog e.1 e.2.2.1) e.2.2.2 := List.forall_mem_cons.2 ⟨lo_R04_Same_24_4, noneIn⟩
def S_R04_Same : FSp := ⟨[.one (.l 25), .one (.l 25)], [], [], [([.one (.b)], [])]⟩
noncomputable def m_R04_Same : List U → Rt
  | [.l v0, .l v1] =>
    (.test (ln v0 != ln v1)
    (.stop 0 [.b false])
    (let r0 : Rs := (lres rd_R04_Same_24_4 [U.l v0, U.l v1, U.i (0 : Int)])
    (.test (ok r0 0)
    (.stop 0 [.b (uB (out r0 0) 0)])
    (.test (ok r0 1)
    (.stop 0 [.b true])
    .fail))))
  | _ => .fail
set_option maxRecDepth 100000 in
theorem q_R04_Same (v0 : List (List PV)) (v1 : List (List PV)) : callK br Tryz.prog X139 M_R04_Same L_R04_Same (lsT ll_R04_Same_24_4) 60 24 (encs [.l v0, .l v1] 0 S_R04_Same.ap) (encH [.l v0, .l v1] (ws S_R04_Same.ap) S_R04_Same.ah) (fun y => fixR Tryz.prog S_R04_Same.plan S_R04_Same.ah.length y) =
    (m_R04_Same [.l v0, .l v1]).go br (fun _ => none) S_R04_Same.fin := by
  rw [← callF_eq]; kernel_rfl
theorem e_R04_Same : EOK Tryz.prog 24 (gF S_R04_Same m_R04_Same) :=
  eokTold mixed named x139 (loopsOK_list rids lk_R04_Same_24_4) 60 S_R04_Same m_R04_Same (by
    intro us v h; unfold m_R04_Same at h; split at h
    · rename_i v0 v1; exact q_R04_Same v0 v1
    · cases h) false
noncomputable abbrev X140 : Ext := extT [(24, (gF S_R04_Same m_R04_Same))] X139
theorem x140 : XOK Tryz.prog X140 := xok1 x139 e_R04_Same

/-- levee/leveelaw05.BagTells -/
def L_L05_BagTells : FuncId → Nat → Option (List Nat) := liveT [(4, 7, [0, 7, 8]), (4, 1000007, [0, 7]), (4, 2000007, [6])]
def M_L05_BagTells : FuncId → Bool := fun _ => false
noncomputable def rd_L05_BagTells_4_7 : List U → Rt
  | [.l v0, .i v1, .i v2] =>
    (.test (decide (v2 < ln v0))
    (.test (inR v2 (ln v0))
    (.next [.l v0, .i (if true = true then if cI (el v0 v2) 1 > v1 then cI (el v0 v2) 1 else v1 else if cI (el v0 v2) 1 < v1 then cI (el v0 v2) 1 else v1), .i (w64 (v2 + (1 : Int)))])
    .fail)
    (.stop 0 [.l v0, .i v1]))
  | _ => .fail
def sp_L05_BagTells_4_7 : LSp := ⟨104, ⟨[(0, .one (.l 49)), (7, .one (.i .i64)), (8, .one (.i .i64))], []⟩, [(.exit 0, ⟨[(0, .one (.l 49)), (7, .one (.i .i64))], []⟩)]⟩
set_option maxRecDepth 100000 in
theorem rq_L05_BagTells_4_7 (v0 : List (List PV)) (v1 : Int) (v2 : Int) : runK br Tryz.prog (callK br Tryz.prog X140 M_L05_BagTells L_L05_BagTells (lsT []) 40) M_L05_BagTells (lsT [] 4 0) 40 0 (L_L05_BagTells 4) (bodyOf Tryz.prog 4 7) (sp_L05_BagTells_4_7.s.ts sp_L05_BagTells_4_7.n [.l v0, .i v1, .i v2]) (sp_L05_BagTells_4_7.s.h [.l v0, .i v1, .i v2]) (idc Tryz.prog 0 (L_L05_BagTells 4) 7) =
    (rd_L05_BagTells_4_7 [.l v0, .i v1, .i v2]).go br (fun us' => some (.normal, sp_L05_BagTells_4_7.s.ts sp_L05_BagTells_4_7.n us', sp_L05_BagTells_4_7.s.h us')) sp_L05_BagTells_4_7.fin := by
  rw [← callF_eq, ← runF_eq]; kernel_rfl
theorem lo_L05_BagTells_4_7 {R : Type} : LoopTells Tryz.prog X140 M_L05_BagTells L_L05_BagTells 0 (L_L05_BagTells 4) (bodyOf Tryz.prog 4 7) (gL (R := R) sp_L05_BagTells_4_7 rd_L05_BagTells_4_7 br) :=
  loopTold (callK_ev (loopsOK_list rids noneIn) 40) (lsokIn (loopsOK_list rids noneIn) 4 0 7) (by kernel_rfl) sp_L05_BagTells_4_7 rd_L05_BagTells_4_7 rfl (by kernel_rfl) (by
    intro us v h; unfold rd_L05_BagTells_4_7 at h; split at h
    · rename_i v0 v1 v2; exact rq_L05_BagTells_4_7 v0 v1 v2
    · cases h)
noncomputable abbrev ll_L05_BagTells_4_7 {R : Type} : List (Nat × Nat × Nat × Smy R) := (4, 0, 7, gL sp_L05_BagTells_4_7 rd_L05_BagTells_4_7 br) :: []
theorem lk_L05_BagTells_4_7 {R : Type} : ∀ e ∈ ll_L05_BagTells_4_7 (R := R), LoopTells Tryz.prog X140 M_L05_BagTells L_L05_BagTells e.2.1 (L_L05_BagTells e.1) (bodyOf Tryz.prog e.1 e.2.2.1) e.2.2.2 := List.forall_mem_cons.2 ⟨lo_L05_BagTells_4_7, noneIn⟩
def S_L05_BagTells : FSp := ⟨[.one (.l 49), .one (.l 49), .one (.l 31)], [], [], [([.one (.b)], [])]⟩
noncomputable def m_L05_BagTells : List U → Rt
  | [.l v0, .l v1, .l v2] =>
    (let r0 : Rs := (Rt.res (m_R05_Small [U.l v0]))
    (.test (ok r0 0)
    (.test (!uB (out r0 0) 0)
    (let r1 : Rs := (Rt.res (m_L05_fixed []))
    (.test (ok r1 0)
    (.stop 0 [.b (uB (out r1 0) 0)])
    .fail))
    (let r2 : Rs := (Rt.res (m_R05_Small [U.l v1]))
    (.test (ok r2 0)
    (.test (!uB (out r2 0) 0)
    (let r3 : Rs := (Rt.res (m_L05_fixed []))
    (.test (ok r3 0)
    (.stop 0 [.b (uB (out r3 0) 0)])
    .fail))
    (let r4 : Rs := (Rt.res (m_bag_May [U.l v0]))
    (.test (ok r4 0)
    (let r5 : Rs := (Rt.res (m_R05_May [U.l v0]))
    (.test (ok r5 0)
    (.test (!uB (out r4 0) 0 == uB (out r5 0) 0)
    (.stop 0 [.b false])
    (let r6 : Rs := (Rt.res (m_bag_Get [U.l v0, U.l v2]))
    (.test (ok r6 0)
    (let r7 : Rs := (Rt.res (m_R05_Get [U.l v0, U.l v2]))
    (.test (ok r7 0)
    (.test (uI (out r6 0) 0 != uI (out r7 0) 0)
    (.stop 0 [.b false])
    (let r8 : Rs := (Rt.res (m_bag_Plus [U.l [[PV.lst 49 v0], [PV.lst 49 v1]]]))
    (.test (ok r8 0)
    (let r9 : Rs := (Rt.res (m_R05_Plus [U.l [[PV.lst 49 v0], [PV.lst 49 v1]]]))
    (.test (ok r9 0)
    (let r10 : Rs := (Rt.res (m_R05_Same [U.l (uL (out r8 0) 0), U.l (uL (out r9 0) 0)]))
    (.test (ok r10 0)
    (.test (!uB (out r10 0) 0)
    (.stop 0 [.b false])
    (let r11 : Rs := (Rt.res (m_bag_Neg [U.l v0]))
    (.test (ok r11 0)
    (let r12 : Rs := (Rt.res (m_R05_Neg [U.l v0]))
    (.test (ok r12 0)
    (let r13 : Rs := (Rt.res (m_R05_Same [U.l (uL (out r11 0) 0), U.l (uL (out r12 0) 0)]))
    (.test (ok r13 0)
    (.test (!uB (out r13 0) 0)
    (.stop 0 [.b false])
    (let r14 : Rs := (Rt.res (m_bag_Text [U.l v0]))
    (.test (ok r14 0)
    (let r15 : Rs := (Rt.res (m_R05_Text [U.l v0]))
    (.test (ok r15 0)
    (.test (!ByteArray.toList (uS (out r14 0) 0) == ByteArray.toList (uS (out r15 0) 0))
    (.stop 0 [.b false])
    (let r16 : Rs := (lres rd_L05_BagTells_4_7 [U.l v0, U.i (0 : Int), U.i (0 : Int)])
    (.test (ok r16 0)
    (.test (decide (uI (out r16 0) 1 > (5000 : Int)))
    (.test (decide (uI (out r16 0) 1 ≤ (100000 : Int)))
    (let r17 : Rs := (Rt.res (m_L05_fixed []))
    (.test (ok r17 0)
    (.stop 0 [.b (uB (out r17 0) 0)])
    .fail))
    (let r18 : Rs := (Rt.res (m_bag_Rows [U.l (uL (out r16 0) 0)]))
    (.test (ok r18 0)
    (let r19 : Rs := (Rt.res (m_R05_Rows [U.l (uL (out r16 0) 0)]))
    (.test (ok r19 0)
    (let r20 : Rs := (Rt.res (m_L05_fixed []))
    (.test (ok r20 0)
    (.test (uB (out r20 0) 0)
    (let r21 : Rs := (Rt.res (m_R04_Same [U.l (uL (out r18 0) 1), U.l (uL (out r19 0) 1)]))
    (.test (ok r21 0)
    (.test (uB (out r21 0) 0)
    (.stop 0 [.b (uB (out r18 0) 0 == uB (out r19 0) 0)])
    (.stop 0 [.b false]))
    .fail))
    (.stop 0 [.b false]))
    .fail))
    .fail))
    .fail)))
    (let r22 : Rs := (Rt.res (m_bag_Rows [U.l (uL (out r16 0) 0)]))
    (.test (ok r22 0)
    (let r23 : Rs := (Rt.res (m_R05_Rows [U.l (uL (out r16 0) 0)]))
    (.test (ok r23 0)
    (let r24 : Rs := (Rt.res (m_L05_fixed []))
    (.test (ok r24 0)
    (.test (uB (out r24 0) 0)
    (let r25 : Rs := (Rt.res (m_R04_Same [U.l (uL (out r22 0) 1), U.l (uL (out r23 0) 1)]))
    (.test (ok r25 0)
    (.test (uB (out r25 0) 0)
    (.stop 0 [.b (uB (out r22 0) 0 == uB (out r23 0) 0)])
    (.stop 0 [.b false]))
    .fail))
    (.stop 0 [.b false]))
    .fail))
    .fail))
    .fail)))
    .fail)))
    .fail))
    .fail)))
    .fail))
    .fail))
    .fail)))
    .fail))
    .fail))
    .fail)))
    .fail))
    .fail)))
    .fail))
    .fail)))
    .fail)))
    .fail))
  | _ => .fail
set_option maxRecDepth 100000 in
theorem q_L05_BagTells (v0 : List (List PV)) (v1 : List (List PV)) (v2 : List (List PV)) : callK br Tryz.prog X140 M_L05_BagTells L_L05_BagTells (lsT ll_L05_BagTells_4_7) 60 4 (encs [.l v0, .l v1, .l v2] 0 S_L05_BagTells.ap) (encH [.l v0, .l v1, .l v2] (ws S_L05_BagTells.ap) S_L05_BagTells.ah) (fun y => fixR Tryz.prog S_L05_BagTells.plan S_L05_BagTells.ah.length y) =
    (m_L05_BagTells [.l v0, .l v1, .l v2]).go br (fun _ => none) S_L05_BagTells.fin := by
  rw [← callF_eq]; kernel_rfl
theorem e_L05_BagTells : EOK Tryz.prog 4 (gF S_L05_BagTells m_L05_BagTells) :=
  eokTold mixed named x140 (loopsOK_list rids lk_L05_BagTells_4_7) 60 S_L05_BagTells m_L05_BagTells (by
    intro us v h; unfold m_L05_BagTells at h; split at h
    · rename_i v0 v1 v2; exact q_L05_BagTells v0 v1 v2
    · cases h) false
noncomputable abbrev X141 : Ext := extT [(4, (gF S_L05_BagTells m_L05_BagTells))] X140
theorem x141 : XOK Tryz.prog X141 := xok1 x140 e_L05_BagTells

end Go.Proofs.YthmljoalohpafaaGreatDoor






